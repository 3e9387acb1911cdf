/-
  Replies that are only read; Same of them; odd.
-/
import Derived.Test.YtoplkglnjgllnaaTellS
import Derived.Test.YtoplkglnjgllnaaTellE4
import Derived.Test.YtoplkglnjgllnaaTellR4
import Derived.Great.BuildSlice
namespace Go.Proofs.Ytoplkglnjgllnaa
open Go.RowKit
set_option linter.unusedVariables false
set_option linter.unusedSimpArgs false

/-- A reply that is only read. -/
structure TellRd (w : World) (x : TellV) (Aq : Option Addr) (nq cq : Nat) (Ad : Option Addr) (nd cd : Nat) : Prop where
  q : RdR w w.heap.size 3 Aq nq (x.qids.map qidC)
  d : RdB w w.heap.size Ad nd x.data
  nq_le : nq ≤ 1000
  nd_le : nd ≤ 1000
  name : x.name.length ≤ 1000000
  sname : x.sname.length ≤ 1000000
theorem TellRd.up {w w' : World} {x : TellV} {Aq : Option Addr} {nq cq : Nat} {Ad : Option Addr} {nd cd : Nat} (h : TellRd w x Aq nq cq Ad nd cd) (k : Below w.heap.size w w') : TellRd w' x Aq nq cq Ad nd cd :=
  { h with q := h.q.up k, d := h.d.up k }
theorem TellRd.drew {w : World} {x : TellV} {Aq : Option Addr} {nq cq : Nat} {Ad : Option Addr} {nd cd : Nat} (h : TellRd w x Aq nq cq Ad nd cd) : TellRd w.drew x Aq nq cq Ad nd cd := h.up (Below.refl _ _).drew
theorem tellC_len (x : TellV) (Aq : Option Addr) (nq cq : Nat) (Ad : Option Addr) (nd cd : Nat) : (tellC x Aq nq cq Ad nd cd).length = 18 := rfl

theorem tellSame_any (x y : TellV) (Aq : Option Addr) (nq cq : Nat) (Ad : Option Addr) (nd cd : Nat) (Bq : Option Addr) (mq dq : Nat) (Bd : Option Addr) (md dd : Nat) (w : World) (hx : TellRd w x Aq nq cq Ad nd cd) (hy : TellRd w y Bq mq dq Bd md dd) :
    Calls Try.prog 12 #[.agg (tellC x Aq nq cq Ad nd cd).toArray, .agg (tellC y Bq mq dq Bd md dd).toArray] w fun e w' => e = .returned (.bool (sameT x y)) ∧ Below w.heap.size w w' :=
  tellSame_flat x.kind x.tag x.code x.msize x.iounit x.count x.name x.qid.dir x.qid.ver x.qid.path Aq nq cq Ad nd cd x.sqid.dir x.sqid.ver x.sqid.path x.smode x.ssize x.sname y.kind y.tag y.code y.msize y.iounit y.count y.name y.qid.dir y.qid.ver y.qid.path Bq mq dq Bd md dd y.sqid.dir y.sqid.ver y.sqid.path y.smode y.ssize y.sname w x.qids y.qids hx.q hy.q (by have := hx.nq_le; omega) x.data y.data hx.d hy.d
theorem refSame_any (x y : TellV) (Aq : Option Addr) (nq cq : Nat) (Ad : Option Addr) (nd cd : Nat) (Bq : Option Addr) (mq dq : Nat) (Bd : Option Addr) (md dd : Nat) (w : World) (hx : TellRd w x Aq nq cq Ad nd cd) (hy : TellRd w y Bq mq dq Bd md dd) :
    Calls Try.prog 13 #[.agg (tellC x Aq nq cq Ad nd cd).toArray, .agg (tellC y Bq mq dq Bd md dd).toArray] w fun e w' => e = .returned (.bool (sameT x y)) ∧ Below w.heap.size w w' :=
  refSame_flat x.kind x.tag x.code x.msize x.iounit x.count x.name x.qid.dir x.qid.ver x.qid.path Aq nq cq Ad nd cd x.sqid.dir x.sqid.ver x.sqid.path x.smode x.ssize x.sname y.kind y.tag y.code y.msize y.iounit y.count y.name y.qid.dir y.qid.ver y.qid.path Bq mq dq Bd md dd y.sqid.dir y.sqid.ver y.sqid.path y.smode y.ssize y.sname w x.qids y.qids hx.q hy.q (by have := hx.nq_le; omega) x.data y.data hx.d hy.d

/-- A block of rows just laid. -/
theorem RdR.laid {w : World} {k : Nat} {rs : List (List Value)} (h : ∀ r ∈ rs, r.length = k) (e : TypeId) : RdR (w.alloc (.cells rs.flatten.toArray e)) (w.heap.size + 1) k (some ⟨w.heap.size, 0, none⟩) rs.length rs := by
  refine ⟨h, rfl, fun _ => ⟨_, _, rfl, by omega, fun i j r v hr hv => ?_⟩⟩
  have hb : Blk (w.alloc (.cells rs.flatten.toArray e)) w.heap.size e rs.flatten := Blk.new w e rs.flatten
  have := hb.cell (i * k + j) v (flatK_at h i j r v hr hv)
  rw [Nat.zero_add]
  exact this
/-- Three structs in a slice. -/
theorem wpList_buildRows3 {P : Program} {w : World} {ops : Array Oper} {rest : List Oper} {o : Oper} {a : Act} {Q : Exit → Act → World → Prop} {t e : TypeId} {z : Value} {k bytes : Nat} (el : Elem P t e z k bytes) (hgd : o.guard = none)
    (x0 x1 x2 : Operand) (ho : o.op = .buildSlice t 3 #[(0, x0), (1, x1), (2, x2)]) (r0 r1 r2 : List Value) (h0 : a.eval x0 = .agg r0.toArray) (h1 : a.eval x1 = .agg r1.toArray) (h2 : a.eval x2 = .agg r2.toArray) (l0 : r0.length = k) (l1 : r1.length = k) (l2 : r2.length = k) (hk : k ≤ 1000)
    (h : ∀ (g : Nat) (w' : World), RdR w' w'.heap.size k (some ⟨g, 0, none⟩) 3 [r0, r1, r2] → Below w.heap.size w w' → wpList P ops Q rest (a.put o.dst (.slice (some ⟨g, 0, none⟩) 3 3)) w') : wpList P ops Q (o :: rest) a w := by
  obtain ⟨i, hi, hz, hs, hb⟩ := el.info
  have hpos := el.pos
  have hcells : ∀ v ∈ [Value.agg r0.toArray, Value.agg r1.toArray, Value.agg r2.toArray], v.cells.size = k := by
    intro v hv
    simp only [List.mem_cons, List.not_mem_nil, or_false] at hv
    rcases hv with rfl | rfl | rfl <;> simp [Value.cells, l0, l1, l2]
  have hf := Great.fill_whole (s := k) hpos [Value.agg r0.toArray, Value.agg r1.toArray, Value.agg r2.toArray] ((Array.range (3 * k)).map (z.cells[· % z.cells.size]!)) hcells (by simp)
  have he : ([Value.agg r0.toArray, Value.agg r1.toArray, Value.agg r2.toArray].flatMap fun v => v.cells.toList) = [r0, r1, r2].flatten := by simp [Value.cells]
  rw [he] at hf
  refine wpList_buildSlice hgd t e 3 _ ho ([r0, r1, r2].flatten.toArray) i z el.ht hi hz (by rw [hs]; omega) (by rw [hs]; omega) ?_ (h w.heap.size _ ((RdR.laid (rs := [r0, r1, r2]) (k := k) (by
    intro r hr
    simp only [List.mem_cons, List.not_mem_nil, or_false] at hr
    rcases hr with rfl | rfl | rfl <;> assumption) e).more (by simp)) ((Below.refl _ _).alloc (Nat.le_refl _) _))
  rw [hs]
  simpa [h0, h1, h2] using hf
theorem tellsElem : Elem Try.prog 32 29 (.agg #[.int .i64 0, .int .i64 0, .int .i64 0, .int .i64 0, .int .i64 0, .int .i64 0, .string ByteArray.empty, .bool false, .int .i64 0, .int .i64 0, .slice none 0 0, .slice none 0 0, .bool false, .int .i64 0, .int .i64 0, .int .i64 0, .int .i64 0, .string ByteArray.empty]) 18 192 := elem_of Try.underlying32 (by kernel_rfl) rfl (by omega)

theorem own_farB {w : World} {base size n q c : Nat} {e t : TypeId} {A : Option Addr} {xs cs : List Value} (h : Own w base e size (.slice A n c) n xs) (hq : Blk w q t cs) (ht : t ≠ e) : A.map (·.block) ≠ some q := by
  intro he
  rcases h.2 with ⟨hv, _⟩ | ⟨b, cap, cur, fz, hv, hbb, hh, r⟩
  · injection hv with h1
    subst h1
    cases he
  · injection hv with h1
    subst h1
    have hb : b = q := by simpa using he
    subst hb
    unfold Blk at hq
    rw [hq] at hh
    injection hh with h1
    injection h1 with _ h2
    exact ht h2
theorem blk_grown {w w' : World} {base k n c q : Nat} {e t : TypeId} {A : Option Addr} {rs : List (List Value)} {cs : List Value} {o : Obj} (h : OwR w base e k A n c rs) (hq : Blk w q t cs) (ht : t ≠ e) (hg : (w.alloc o).grownBy w' (A.map (·.block))) : Blk w' q t cs := by
  have hq' := hq.alloc o
  exact (hg.block q hq'.lt (fun e => own_farB (h.alloc o).2.2 hq' ht e.symm)).trans hq'

theorem own_two {w : World} {b1 b2 s1 s2 n1 n2 c2 : Nat} {e1 e2 : TypeId} {v1 : Value} {A2 : Option Addr} {l1 l2 : List Value} (h1 : Own w b1 e1 s1 v1 n1 l1) (h2 : Own w b2 e2 s2 (.slice A2 n2 c2) n2 l2) (he : e1 ≠ e2) : v1.ownBlock = none ∨ v1.ownBlock ≠ A2.map (·.block) := by
  rcases h1.2 with ⟨hv, _⟩ | ⟨b, cap, cur, fz, hv, _, hh, _⟩
  · exact .inl (by rw [hv]; rfl)
  · refine .inr fun e => ?_
    rcases h2.2 with ⟨hv2, _⟩ | ⟨b', cap', cur', fz', hv2, _, hh', _⟩
    · injection hv2 with h3
      subst h3
      rw [hv] at e
      cases e
    · injection hv2 with h3
      subst h3
      rw [hv] at e
      have hb : b = b' := by simpa [Value.ownBlock] using e
      subst hb
      rw [hh] at hh'
      injection hh' with h4
      injection h4 with _ h5
      exact he h5

/-- Good, of a reply that was handed in. -/
theorem goodT_ok (t : TellV) (Aq : Option Addr) (nq cq : Nat) (Ad : Option Addr) (nd cd : Nat) (w : World) (h : TellOk w w.heap.size t Aq nq cq Ad nd cd) :
    Calls Try.prog 10 #[.agg (tellC t Aq nq cq Ad nd cd).toArray] w (GoodTPost t w) :=
  goodT_any t.kind t.tag t.code t.msize t.iounit t.count t.name t.qid.dir t.qid.ver t.qid.path t.qids t.data t.sqid.dir t.sqid.ver t.sqid.path t.smode t.ssize t.sname Aq nq cq Ad nd cd w h
theorem goodT_lens (t : TellV) : (goodT t).qids.length ≤ 8 ∧ (goodT t).data.length ≤ 30 ∧ (goodT t).name.length ≤ 40 ∧ (goodT t).sname.length ≤ 40 := by
  simp only [goodT, ownT, goodU18]
  refine ⟨?_, ?_, ?_, ?_⟩
  · by_cases h : hasM (kindB t.kind) 108 = true <;> simp [h] <;> omega
  · by_cases h : hasM (kindB t.kind) 100 = true <;> simp [h] <;> omega
  · by_cases h : hasM (kindB t.kind) 122 = true <;> simp [h] <;> omega
  · by_cases h : hasM (kindB t.kind) 115 = true <;> simp [h] <;> omega

def OddPost (w : World) (e : Ending) (w' : World) : Prop :=
  ∃ x Aq nq cq Ad nd cd, e = .returned (.agg (tellC x Aq nq cq Ad nd cd).toArray) ∧ TellRd w' x Aq nq cq Ad nd cd ∧ Below w.heap.size w w'

theorem Own.farG {w w' : World} {base size n q : Nat} {e t : TypeId} {v : Value} {xs cs : List Value} (h : Own w base e size v n xs) (hq : Blk w q t cs) (ht : t ≠ e) (k : Keeps (Is q) w w') : Own w' base e size v n xs := by
  have hlt := Own.lt h
  refine ⟨h.1, ?_⟩
  rcases h.2 with h2 | ⟨b, cap, cur, fz, hv, hbb, hh, r⟩
  · exact .inl h2
  · refine .inr ⟨b, cap, cur, fz, hv, hbb, (k.block b (hlt b (by rw [hv]; rfl)).2 (fun e => ?_)).trans hh, r⟩
    have e' : b = q := e
    subst e'
    unfold Blk at hq
    rw [hq] at hh
    injection hh with h1
    injection h1 with _ h2
    exact ht h2
theorem OwR.farG {w w' : World} {base k n c q : Nat} {e t : TypeId} {A : Option Addr} {rs : List (List Value)} {cs : List Value} (h : OwR w base e k A n c rs) (hq : Blk w q t cs) (ht : t ≠ e) (hk : Keeps (Is q) w w') : OwR w' base e k A n c rs := ⟨h.1, h.2.1, Own.farG h.2.2 hq ht hk⟩
theorem OwB.farG {w w' : World} {base n c q : Nat} {t : TypeId} {A : Option Addr} {l : List UInt8} {cs : List Value} (h : OwB w base A n c l) (hq : Blk w q t cs) (ht : t ≠ 5) (hk : Keeps (Is q) w w') : OwB w' base A n c l := Own.farG h hq ht hk

set_option maxRecDepth 100000 in
set_option maxHeartbeats 4000000 in
theorem odd_0 (kind tag code msize iounit count : Int) (name : List UInt8) (qdir : Bool) (qver qpath : Int) (qids : List QidV) (data : List UInt8) (sdir : Bool) (sver spath smode ssize : Int) (sname : List UInt8) (Aq : Option Addr) (nq cq : Nat) (Ad : Option Addr) (nd cd : Nat) (which n : Int) (s : List UInt8) (w : World)
    (hok : TellOk w w.heap.size ⟨kind, tag, code, msize, iounit, count, name, ⟨qdir, qver, qpath⟩, qids, data, ⟨sdir, sver, spath⟩, smode, ssize, sname⟩ Aq nq cq Ad nd cd) (hw : I64 which) (hs : s.length ≤ 9223372036854775807) (hk : up0 which % 14 = 0) :
    Calls Try.prog 11 #[.agg #[.int .i64 kind, .int .i64 tag, .int .i64 code, .int .i64 msize, .int .i64 iounit, .int .i64 count, .string (st name), .bool qdir, .int .i64 qver, .int .i64 qpath, .slice Aq nq cq, .slice Ad nd cd, .bool sdir, .int .i64 sver, .int .i64 spath, .int .i64 smode, .int .i64 ssize, .string (st sname)], .int .i64 which, .int .i64 n, .string (st s)] w (OddPost w) := by
  have hA0 := Blk.new w 29 [.int .i64 kind, .int .i64 tag, .int .i64 code, .int .i64 msize, .int .i64 iounit, .int .i64 count, .string (st name), .bool qdir, .int .i64 qver, .int .i64 qpath, .slice Aq nq cq, .slice Ad nd cd, .bool sdir, .int .i64 sver, .int .i64 spath, .int .i64 smode, .int .i64 ssize, .string (st sname)]
  have hZ0 := Blk.new (w.alloc (.cells #[.int .i64 kind, .int .i64 tag, .int .i64 code, .int .i64 msize, .int .i64 iounit, .int .i64 count, .string (st name), .bool qdir, .int .i64 qver, .int .i64 qpath, .slice Aq nq cq, .slice Ad nd cd, .bool sdir, .int .i64 sver, .int .i64 spath, .int .i64 smode, .int .i64 ssize, .string (st sname)] 29)) 29 [.int .i64 0, .int .i64 0, .int .i64 0, .int .i64 0, .int .i64 0, .int .i64 0, .string ByteArray.empty, .bool false, .int .i64 0, .int .i64 0, .slice none 0 0, .slice none 0 0, .bool false, .int .i64 0, .int .i64 0, .int .i64 0, .int .i64 0, .string ByteArray.empty]
  obtain ⟨W2, hW2⟩ : ∃ x, x = (w.alloc (.cells #[.int .i64 kind, .int .i64 tag, .int .i64 code, .int .i64 msize, .int .i64 iounit, .int .i64 count, .string (st name), .bool qdir, .int .i64 qver, .int .i64 qpath, .slice Aq nq cq, .slice Ad nd cd, .bool sdir, .int .i64 sver, .int .i64 spath, .int .i64 smode, .int .i64 ssize, .string (st sname)] 29)).alloc (.cells #[.int .i64 0, .int .i64 0, .int .i64 0, .int .i64 0, .int .i64 0, .int .i64 0, .string ByteArray.empty, .bool false, .int .i64 0, .int .i64 0, .slice none 0 0, .slice none 0 0, .bool false, .int .i64 0, .int .i64 0, .int .i64 0, .int .i64 0, .string ByteArray.empty] 29) := ⟨_, rfl⟩
  have hA2 : Blk W2 w.heap.size 29 [.int .i64 kind, .int .i64 tag, .int .i64 code, .int .i64 msize, .int .i64 iounit, .int .i64 count, .string (st name), .bool qdir, .int .i64 qver, .int .i64 qpath, .slice Aq nq cq, .slice Ad nd cd, .bool sdir, .int .i64 sver, .int .i64 spath, .int .i64 smode, .int .i64 ssize, .string (st sname)] := by rw [hW2]; exact hA0.alloc _
  have hZ2 : Blk W2 (w.heap.size + 1) 29 [.int .i64 0, .int .i64 0, .int .i64 0, .int .i64 0, .int .i64 0, .int .i64 0, .string ByteArray.empty, .bool false, .int .i64 0, .int .i64 0, .slice none 0 0, .slice none 0 0, .bool false, .int .i64 0, .int .i64 0, .int .i64 0, .int .i64 0, .string ByteArray.empty] := by rw [hW2]; simpa using hZ0
  have hb2 : Below w.heap.size w W2 := by rw [hW2]; exact ((Below.refl _ _).alloc (Nat.le_refl _) _).alloc (by simp) _
  have hW3 : W2 = (w.alloc (.cells #[.int .i64 kind, .int .i64 tag, .int .i64 code, .int .i64 msize, .int .i64 iounit, .int .i64 count, .string (st name), .bool qdir, .int .i64 qver, .int .i64 qpath, .slice Aq nq cq, .slice Ad nd cd, .bool sdir, .int .i64 sver, .int .i64 spath, .int .i64 smode, .int .i64 ssize, .string (st sname)] 29)).alloc (.cells #[.int .i64 0, .int .i64 0, .int .i64 0, .int .i64 0, .int .i64 0, .int .i64 0, .string ⟨#[]⟩, .bool false, .int .i64 0, .int .i64 0, .slice none 0 0, .slice none 0 0, .bool false, .int .i64 0, .int .i64 0, .int .i64 0, .int .i64 0, .string ⟨#[]⟩] 29) := hW2
  obtain ⟨gZ, hgZ⟩ : ∃ x, x = w.heap.size + 1 := ⟨_, rfl⟩
  rw [← hgZ] at hZ2
  have gA_lt : w.heap.size < gZ := by omega
  have gZ_lt : gZ < W2.heap.size := hZ2.lt
  have HZ := Lib.hid hZ2
  have HB2 := Lib.hid hb2
  have GZ := Lib.hid hgZ
  have HOK2 := Lib.hid ((show TellOk W2 W2.heap.size _ Aq nq cq Ad nd cd from { (hok.up hb2) with qids := (hok.qids.below hb2).more hb2.size, data := (hok.data.below hb2).more hb2.size }))
  clear hA0 hZ0 hZ2 hb2 hW2 hgZ hok
  go_enter Try.func11, Try.ntmps11
  go_upto_region 1 with fail
  rw [← hW3, ← GZ.out]
  clear hW3
  go_wp2_with (refine wpList_loadBlk rfl (.tmp 4) rfl rfl (by kernel_rfl) tellT_agg hA2 ?_; simp only [Act.put, List.setIfInBounds_toArray, List.set_cons_succ, List.set_cons_zero])
  refine (goodT_any kind tag code msize iounit count name qdir qver qpath qids data sdir sver spath smode ssize sname Aq nq cq Ad nd cd _ HOK2.out).mono ?_
  rintro e W4 ⟨x, Xq, mq, dq, Xd, md, dd, hx, rfl, hoq, hod, hb4⟩
  have hlens := goodT_lens ⟨kind, tag, code, msize, iounit, count, name, ⟨qdir, qver, qpath⟩, qids, data, ⟨sdir, sver, spath⟩, smode, ssize, sname⟩
  rw [← hx.out] at hlens
  clear hx hA2
  obtain ⟨x0, x1, x2, x3, x4, x5, xn, ⟨xd, xv, xp⟩, xq, xl, ⟨yd, yv, yp⟩, x6, x7, xm⟩ := x
  simp only [tellC]
  have hXZ := Blk.new W4 29 [.int .i64 0, .int .i64 0, .int .i64 0, .int .i64 0, .int .i64 0, .int .i64 0, .string ByteArray.empty, .bool false, .int .i64 0, .int .i64 0, .slice none 0 0, .slice none 0 0, .bool false, .int .i64 0, .int .i64 0, .int .i64 0, .int .i64 0, .string ByteArray.empty]
  have hgX : W2.heap.size ≤ W4.heap.size := hb4.size
  have hW4a : Blk (W4.alloc (.cells #[.int .i64 0, .int .i64 0, .int .i64 0, .int .i64 0, .int .i64 0, .int .i64 0, .string ⟨#[]⟩, .bool false, .int .i64 0, .int .i64 0, .slice none 0 0, .slice none 0 0, .bool false, .int .i64 0, .int .i64 0, .int .i64 0, .int .i64 0, .string ⟨#[]⟩] 29)) W4.heap.size 29 [.int .i64 0, .int .i64 0, .int .i64 0, .int .i64 0, .int .i64 0, .int .i64 0, .string ByteArray.empty, .bool false, .int .i64 0, .int .i64 0, .slice none 0 0, .slice none 0 0, .bool false, .int .i64 0, .int .i64 0, .int .i64 0, .int .i64 0, .string ByteArray.empty] := hXZ
  obtain ⟨gX, hgXe⟩ : ∃ x, x = W4.heap.size := ⟨_, rfl⟩
  have hKs := keeps_setRow (W4.alloc (.cells #[.int .i64 0, .int .i64 0, .int .i64 0, .int .i64 0, .int .i64 0, .int .i64 0, .string ⟨#[]⟩, .bool false, .int .i64 0, .int .i64 0, .slice none 0 0, .slice none 0 0, .bool false, .int .i64 0, .int .i64 0, .int .i64 0, .int .i64 0, .string ⟨#[]⟩] 29)) (g := gX) #[.int .i64 x0, .int .i64 x1, .int .i64 x2, .int .i64 x3, .int .i64 x4, .int .i64 x5, .string (st xn), .bool xd, .int .i64 xv, .int .i64 xp, .slice Xq mq dq, .slice Xd md dd, .bool yd, .int .i64 yv, .int .i64 yp, .int .i64 x6, .int .i64 x7, .string (st xm)]
  have hbal : Below W4.heap.size W4 (W4.alloc (.cells #[.int .i64 0, .int .i64 0, .int .i64 0, .int .i64 0, .int .i64 0, .int .i64 0, .string ⟨#[]⟩, .bool false, .int .i64 0, .int .i64 0, .slice none 0 0, .slice none 0 0, .bool false, .int .i64 0, .int .i64 0, .int .i64 0, .int .i64 0, .string ⟨#[]⟩] 29)) := (Below.refl _ _).alloc (Nat.le_refl _) _
  have hbk : Below W4.heap.size W4 ((W4.alloc (.cells #[.int .i64 0, .int .i64 0, .int .i64 0, .int .i64 0, .int .i64 0, .int .i64 0, .string ⟨#[]⟩, .bool false, .int .i64 0, .int .i64 0, .slice none 0 0, .slice none 0 0, .bool false, .int .i64 0, .int .i64 0, .int .i64 0, .int .i64 0, .string ⟨#[]⟩] 29)).setRow gX #[.int .i64 x0, .int .i64 x1, .int .i64 x2, .int .i64 x3, .int .i64 x4, .int .i64 x5, .string (st xn), .bool xd, .int .i64 xv, .int .i64 xp, .slice Xq mq dq, .slice Xd md dd, .bool yd, .int .i64 yv, .int .i64 yp, .int .i64 x6, .int .i64 x7, .string (st xm)]) := hbal.trans (hKs.is (by omega) (by rw [hgXe]; simp))
  have hX5 : Blk ((W4.alloc (.cells #[.int .i64 0, .int .i64 0, .int .i64 0, .int .i64 0, .int .i64 0, .int .i64 0, .string ⟨#[]⟩, .bool false, .int .i64 0, .int .i64 0, .slice none 0 0, .slice none 0 0, .bool false, .int .i64 0, .int .i64 0, .int .i64 0, .int .i64 0, .string ⟨#[]⟩] 29)).setRow gX #[.int .i64 x0, .int .i64 x1, .int .i64 x2, .int .i64 x3, .int .i64 x4, .int .i64 x5, .string (st xn), .bool xd, .int .i64 xv, .int .i64 xp, .slice Xq mq dq, .slice Xd md dd, .bool yd, .int .i64 yv, .int .i64 yp, .int .i64 x6, .int .i64 x7, .string (st xm)]) gX 29 [.int .i64 x0, .int .i64 x1, .int .i64 x2, .int .i64 x3, .int .i64 x4, .int .i64 x5, .string (st xn), .bool xd, .int .i64 xv, .int .i64 xp, .slice Xq mq dq, .slice Xd md dd, .bool yd, .int .i64 yv, .int .i64 yp, .int .i64 x6, .int .i64 x7, .string (st xm)] := by
    rw [hgXe]; exact hW4a.setRow [.int .i64 x0, .int .i64 x1, .int .i64 x2, .int .i64 x3, .int .i64 x4, .int .i64 x5, .string (st xn), .bool xd, .int .i64 xv, .int .i64 xp, .slice Xq mq dq, .slice Xd md dd, .bool yd, .int .i64 yv, .int .i64 yp, .int .i64 x6, .int .i64 x7, .string (st xm)]
  have hZ5 := (HZ.out.up hb4).up hbk
  have hoq5 := hoq.up hbk
  have hod5 := hod.up hbk
  have hB5 := HB2.out.trans ((Up.trans hb4 hbk).mono (by omega : w.heap.size ≤ W2.heap.size))
  have hX5s : gX < ((W4.alloc (.cells #[.int .i64 0, .int .i64 0, .int .i64 0, .int .i64 0, .int .i64 0, .int .i64 0, .string ⟨#[]⟩, .bool false, .int .i64 0, .int .i64 0, .slice none 0 0, .slice none 0 0, .bool false, .int .i64 0, .int .i64 0, .int .i64 0, .int .i64 0, .string ⟨#[]⟩] 29)).setRow gX #[.int .i64 x0, .int .i64 x1, .int .i64 x2, .int .i64 x3, .int .i64 x4, .int .i64 x5, .string (st xn), .bool xd, .int .i64 xv, .int .i64 xp, .slice Xq mq dq, .slice Xd md dd, .bool yd, .int .i64 yv, .int .i64 yp, .int .i64 x6, .int .i64 x7, .string (st xm)]).heap.size := hX5.lt
  have HX5 := Lib.hid hX5
  have HZ5 := Lib.hid hZ5
  have HQ5 := Lib.hid hoq5
  have HD5 := Lib.hid hod5
  have HB5 := Lib.hid hB5
  have HGX := Lib.hid hgXe
  have gXZ : gX ≠ gZ := by omega
  have gXw : w.heap.size ≤ gX := by omega
  have gWX : W2.heap.size ≤ gX := by omega
  clear hXZ hKs hbal hbk hX5 hZ5 hoq hod hoq5 hod5 hB5 hb4 hgXe
  go_upto_region 2 with (refine wpList_storeBlk rfl (.tmp 9) (.tmp 11) rfl rfl [.int .i64 x0, .int .i64 x1, .int .i64 x2, .int .i64 x3, .int .i64 x4, .int .i64 x5, .string (st xn), .bool xd, .int .i64 xv, .int .i64 xp, .slice Xq mq dq, .slice Xd md dd, .bool yd, .int .i64 yv, .int .i64 yp, .int .i64 x6, .int .i64 x7, .string (st xm)] rfl rfl (by kernel_rfl) hW4a rfl (by simp [Value.oneCell']) ?_)
  rw [← HGX.out]
  generalize (W4.alloc (.cells #[.int .i64 0, .int .i64 0, .int .i64 0, .int .i64 0, .int .i64 0, .int .i64 0, .string ⟨#[]⟩, .bool false, .int .i64 0, .int .i64 0, .slice none 0 0, .slice none 0 0, .bool false, .int .i64 0, .int .i64 0, .int .i64 0, .int .i64 0, .string ⟨#[]⟩] 29)).setRow gX #[.int .i64 x0, .int .i64 x1, .int .i64 x2, .int .i64 x3, .int .i64 x4, .int .i64 x5, .string (st xn), .bool xd, .int .i64 xv, .int .i64 xp, .slice Xq mq dq, .slice Xd md dd, .bool yd, .int .i64 yv, .int .i64 yp, .int .i64 x6, .int .i64 x7, .string (st xm)] = W5 at HX5 HZ5 HQ5 HD5 HB5 hX5s ⊢
  clear hW4a
  have hnq := HQ5.out.len
  have hnd := HD5.out.len
  simp only [List.length_map] at hnq
  go_wp2_with fail
  refine (tAround_det which 14 _ hw.1 hw.2 (by omega) (by omega)).mono ?_
  rintro e w' ⟨rfl, rfl⟩
  rw [show up0 which % (14 : Nat) = 0 from hk]
  have ku := HX5.out.cell 0 _ rfl
  have kf := HX5.out.free 0
  have hX6 := HX5.out.set 0 (.int .i64 n)
  have hZ6 := HZ5.out.other (p := ⟨gX, 0, none⟩) gXZ (.int .i64 n)
  have hk6 : Keeps (Is gX) W5 (W5.setCell ⟨gX, 0, none⟩ (.int .i64 n)) := (Keeps.refl (Is gX) _).setCell (p := ⟨gX, 0, none⟩) (.inl rfl) _
  have hQ6 : OwR (W5.setCell ⟨gX, 0, none⟩ (.int .i64 n)) W2.heap.size 23 3 Xq mq dq (xq.map qidC) := OwR.farG HQ5.out HX5.out (by decide) hk6
  have hD6 : OwB (W5.setCell ⟨gX, 0, none⟩ (.int .i64 n)) W2.heap.size Xd md dd xl := OwB.farG HD5.out HX5.out (by decide) hk6
  have hB6 := HB5.out.trans (hk6.is gXw (Nat.le_of_lt hX5s))
  go_upto_region 30 with fail
  generalize W5.setCell ⟨gX, 0, none⟩ (.int .i64 n) = W6 at hX6 hZ6 hQ6 hD6 hB6 ⊢
  have HZ6 := Lib.hid hZ6
  have HQ6 := Lib.hid hQ6
  have HD6 := Lib.hid hD6
  have HB6 := Lib.hid hB6
  clear ku kf hk6 hZ6 hQ6 hD6 hB6
  have hl1 : xq.length ≤ 8 := hlens.1
  have hl2 : xl.length ≤ 30 := hlens.2.1
  have hl3 : xn.length ≤ 40 := hlens.2.2.1
  have hl4 : xm.length ≤ 40 := hlens.2.2.2
  have hpost : Keeps (Is gZ) W6 (W6.setRow gZ #[.int .i64 n, .int .i64 x1, .int .i64 x2, .int .i64 x3, .int .i64 x4, .int .i64 x5, .string (st xn), .bool xd, .int .i64 xv, .int .i64 xp, .slice Xq mq dq, .slice Xd md dd, .bool yd, .int .i64 yv, .int .i64 yp, .int .i64 x6, .int .i64 x7, .string (st xm)]) → OddPost w (.returned (.agg #[.int .i64 n, .int .i64 x1, .int .i64 x2, .int .i64 x3, .int .i64 x4, .int .i64 x5, .string (st xn), .bool xd, .int .i64 xv, .int .i64 xp, .slice Xq mq dq, .slice Xd md dd, .bool yd, .int .i64 yv, .int .i64 yp, .int .i64 x6, .int .i64 x7, .string (st xm)])) (W6.setRow gZ #[.int .i64 n, .int .i64 x1, .int .i64 x2, .int .i64 x3, .int .i64 x4, .int .i64 x5, .string (st xn), .bool xd, .int .i64 xv, .int .i64 xp, .slice Xq mq dq, .slice Xd md dd, .bool yd, .int .i64 yv, .int .i64 yp, .int .i64 x6, .int .i64 x7, .string (st xm)]) := by
    intro hKz
    refine ⟨⟨n, x1, x2, x3, x4, x5, xn, ⟨xd, xv, xp⟩, xq, xl, ⟨yd, yv, yp⟩, x6, x7, xm⟩, Xq, mq, dq, Xd, md, dd, rfl, ⟨?_, ?_, ?_, ?_, ?_, ?_⟩, below_setRow HB6.out (by omega) _⟩
    · exact OwR.rd (OwR.keeps HQ6.out hKz (fun k hk e => by have e' : k = gZ := e; omega))
    · exact OwB.rd (Own.keeps HD6.out hKz (fun k hk e => by have e' : k = gZ := e; omega))
    · omega
    · omega
    · first | exact Nat.le_trans hl3 (by omega) | exact Nat.le_trans hs3l (by omega)
    · first | exact Nat.le_trans hl4 (by omega) | exact Nat.le_trans hs3l (by omega)
  have HPOST := Lib.hid hpost
  clear hpost
  have hXf := hX6
  have hF := HZ6.out.setRow [.int .i64 n, .int .i64 x1, .int .i64 x2, .int .i64 x3, .int .i64 x4, .int .i64 x5, .string (st xn), .bool xd, .int .i64 xv, .int .i64 xp, .slice Xq mq dq, .slice Xd md dd, .bool yd, .int .i64 yv, .int .i64 yp, .int .i64 x6, .int .i64 x7, .string (st xm)]
  go_wp2_with first
    | (refine wpList_loadBlk rfl (.tmp 9) rfl rfl (by kernel_rfl) tellT_agg hXf ?_; simp only [Act.put, List.setIfInBounds_toArray, List.set_cons_succ, List.set_cons_zero])
    | (refine wpList_storeBlk rfl (.tmp 8) (.tmp 82) rfl rfl [.int .i64 n, .int .i64 x1, .int .i64 x2, .int .i64 x3, .int .i64 x4, .int .i64 x5, .string (st xn), .bool xd, .int .i64 xv, .int .i64 xp, .slice Xq mq dq, .slice Xd md dd, .bool yd, .int .i64 yv, .int .i64 yp, .int .i64 x6, .int .i64 x7, .string (st xm)] rfl rfl (by kernel_rfl) HZ6.out rfl (by simp [Value.oneCell']) ?_)
  have hKz := keeps_setRow W6 (g := gZ) #[.int .i64 n, .int .i64 x1, .int .i64 x2, .int .i64 x3, .int .i64 x4, .int .i64 x5, .string (st xn), .bool xd, .int .i64 xv, .int .i64 xp, .slice Xq mq dq, .slice Xd md dd, .bool yd, .int .i64 yv, .int .i64 yp, .int .i64 x6, .int .i64 x7, .string (st xm)]
  exact bodyPost_ret (v := .agg #[.int .i64 n, .int .i64 x1, .int .i64 x2, .int .i64 x3, .int .i64 x4, .int .i64 x5, .string (st xn), .bool xd, .int .i64 xv, .int .i64 xp, .slice Xq mq dq, .slice Xd md dd, .bool yd, .int .i64 yv, .int .i64 yp, .int .i64 x6, .int .i64 x7, .string (st xm)]) (results_cellBlk Try.results11 rfl hF (by kernel_rfl) tellT_agg) rfl (HPOST.out hKz)

set_option maxRecDepth 100000 in
set_option maxHeartbeats 4000000 in
theorem odd_1 (kind tag code msize iounit count : Int) (name : List UInt8) (qdir : Bool) (qver qpath : Int) (qids : List QidV) (data : List UInt8) (sdir : Bool) (sver spath smode ssize : Int) (sname : List UInt8) (Aq : Option Addr) (nq cq : Nat) (Ad : Option Addr) (nd cd : Nat) (which n : Int) (s : List UInt8) (w : World)
    (hok : TellOk w w.heap.size ⟨kind, tag, code, msize, iounit, count, name, ⟨qdir, qver, qpath⟩, qids, data, ⟨sdir, sver, spath⟩, smode, ssize, sname⟩ Aq nq cq Ad nd cd) (hw : I64 which) (hs : s.length ≤ 9223372036854775807) (hk : up0 which % 14 = 1) :
    Calls Try.prog 11 #[.agg #[.int .i64 kind, .int .i64 tag, .int .i64 code, .int .i64 msize, .int .i64 iounit, .int .i64 count, .string (st name), .bool qdir, .int .i64 qver, .int .i64 qpath, .slice Aq nq cq, .slice Ad nd cd, .bool sdir, .int .i64 sver, .int .i64 spath, .int .i64 smode, .int .i64 ssize, .string (st sname)], .int .i64 which, .int .i64 n, .string (st s)] w (OddPost w) := by
  have hA0 := Blk.new w 29 [.int .i64 kind, .int .i64 tag, .int .i64 code, .int .i64 msize, .int .i64 iounit, .int .i64 count, .string (st name), .bool qdir, .int .i64 qver, .int .i64 qpath, .slice Aq nq cq, .slice Ad nd cd, .bool sdir, .int .i64 sver, .int .i64 spath, .int .i64 smode, .int .i64 ssize, .string (st sname)]
  have hZ0 := Blk.new (w.alloc (.cells #[.int .i64 kind, .int .i64 tag, .int .i64 code, .int .i64 msize, .int .i64 iounit, .int .i64 count, .string (st name), .bool qdir, .int .i64 qver, .int .i64 qpath, .slice Aq nq cq, .slice Ad nd cd, .bool sdir, .int .i64 sver, .int .i64 spath, .int .i64 smode, .int .i64 ssize, .string (st sname)] 29)) 29 [.int .i64 0, .int .i64 0, .int .i64 0, .int .i64 0, .int .i64 0, .int .i64 0, .string ByteArray.empty, .bool false, .int .i64 0, .int .i64 0, .slice none 0 0, .slice none 0 0, .bool false, .int .i64 0, .int .i64 0, .int .i64 0, .int .i64 0, .string ByteArray.empty]
  obtain ⟨W2, hW2⟩ : ∃ x, x = (w.alloc (.cells #[.int .i64 kind, .int .i64 tag, .int .i64 code, .int .i64 msize, .int .i64 iounit, .int .i64 count, .string (st name), .bool qdir, .int .i64 qver, .int .i64 qpath, .slice Aq nq cq, .slice Ad nd cd, .bool sdir, .int .i64 sver, .int .i64 spath, .int .i64 smode, .int .i64 ssize, .string (st sname)] 29)).alloc (.cells #[.int .i64 0, .int .i64 0, .int .i64 0, .int .i64 0, .int .i64 0, .int .i64 0, .string ByteArray.empty, .bool false, .int .i64 0, .int .i64 0, .slice none 0 0, .slice none 0 0, .bool false, .int .i64 0, .int .i64 0, .int .i64 0, .int .i64 0, .string ByteArray.empty] 29) := ⟨_, rfl⟩
  have hA2 : Blk W2 w.heap.size 29 [.int .i64 kind, .int .i64 tag, .int .i64 code, .int .i64 msize, .int .i64 iounit, .int .i64 count, .string (st name), .bool qdir, .int .i64 qver, .int .i64 qpath, .slice Aq nq cq, .slice Ad nd cd, .bool sdir, .int .i64 sver, .int .i64 spath, .int .i64 smode, .int .i64 ssize, .string (st sname)] := by rw [hW2]; exact hA0.alloc _
  have hZ2 : Blk W2 (w.heap.size + 1) 29 [.int .i64 0, .int .i64 0, .int .i64 0, .int .i64 0, .int .i64 0, .int .i64 0, .string ByteArray.empty, .bool false, .int .i64 0, .int .i64 0, .slice none 0 0, .slice none 0 0, .bool false, .int .i64 0, .int .i64 0, .int .i64 0, .int .i64 0, .string ByteArray.empty] := by rw [hW2]; simpa using hZ0
  have hb2 : Below w.heap.size w W2 := by rw [hW2]; exact ((Below.refl _ _).alloc (Nat.le_refl _) _).alloc (by simp) _
  have hW3 : W2 = (w.alloc (.cells #[.int .i64 kind, .int .i64 tag, .int .i64 code, .int .i64 msize, .int .i64 iounit, .int .i64 count, .string (st name), .bool qdir, .int .i64 qver, .int .i64 qpath, .slice Aq nq cq, .slice Ad nd cd, .bool sdir, .int .i64 sver, .int .i64 spath, .int .i64 smode, .int .i64 ssize, .string (st sname)] 29)).alloc (.cells #[.int .i64 0, .int .i64 0, .int .i64 0, .int .i64 0, .int .i64 0, .int .i64 0, .string ⟨#[]⟩, .bool false, .int .i64 0, .int .i64 0, .slice none 0 0, .slice none 0 0, .bool false, .int .i64 0, .int .i64 0, .int .i64 0, .int .i64 0, .string ⟨#[]⟩] 29) := hW2
  obtain ⟨gZ, hgZ⟩ : ∃ x, x = w.heap.size + 1 := ⟨_, rfl⟩
  rw [← hgZ] at hZ2
  have gA_lt : w.heap.size < gZ := by omega
  have gZ_lt : gZ < W2.heap.size := hZ2.lt
  have HZ := Lib.hid hZ2
  have HB2 := Lib.hid hb2
  have GZ := Lib.hid hgZ
  have HOK2 := Lib.hid ((show TellOk W2 W2.heap.size _ Aq nq cq Ad nd cd from { (hok.up hb2) with qids := (hok.qids.below hb2).more hb2.size, data := (hok.data.below hb2).more hb2.size }))
  clear hA0 hZ0 hZ2 hb2 hW2 hgZ hok
  go_enter Try.func11, Try.ntmps11
  go_upto_region 1 with fail
  rw [← hW3, ← GZ.out]
  clear hW3
  go_wp2_with (refine wpList_loadBlk rfl (.tmp 4) rfl rfl (by kernel_rfl) tellT_agg hA2 ?_; simp only [Act.put, List.setIfInBounds_toArray, List.set_cons_succ, List.set_cons_zero])
  refine (goodT_any kind tag code msize iounit count name qdir qver qpath qids data sdir sver spath smode ssize sname Aq nq cq Ad nd cd _ HOK2.out).mono ?_
  rintro e W4 ⟨x, Xq, mq, dq, Xd, md, dd, hx, rfl, hoq, hod, hb4⟩
  have hlens := goodT_lens ⟨kind, tag, code, msize, iounit, count, name, ⟨qdir, qver, qpath⟩, qids, data, ⟨sdir, sver, spath⟩, smode, ssize, sname⟩
  rw [← hx.out] at hlens
  clear hx hA2
  obtain ⟨x0, x1, x2, x3, x4, x5, xn, ⟨xd, xv, xp⟩, xq, xl, ⟨yd, yv, yp⟩, x6, x7, xm⟩ := x
  simp only [tellC]
  have hXZ := Blk.new W4 29 [.int .i64 0, .int .i64 0, .int .i64 0, .int .i64 0, .int .i64 0, .int .i64 0, .string ByteArray.empty, .bool false, .int .i64 0, .int .i64 0, .slice none 0 0, .slice none 0 0, .bool false, .int .i64 0, .int .i64 0, .int .i64 0, .int .i64 0, .string ByteArray.empty]
  have hgX : W2.heap.size ≤ W4.heap.size := hb4.size
  have hW4a : Blk (W4.alloc (.cells #[.int .i64 0, .int .i64 0, .int .i64 0, .int .i64 0, .int .i64 0, .int .i64 0, .string ⟨#[]⟩, .bool false, .int .i64 0, .int .i64 0, .slice none 0 0, .slice none 0 0, .bool false, .int .i64 0, .int .i64 0, .int .i64 0, .int .i64 0, .string ⟨#[]⟩] 29)) W4.heap.size 29 [.int .i64 0, .int .i64 0, .int .i64 0, .int .i64 0, .int .i64 0, .int .i64 0, .string ByteArray.empty, .bool false, .int .i64 0, .int .i64 0, .slice none 0 0, .slice none 0 0, .bool false, .int .i64 0, .int .i64 0, .int .i64 0, .int .i64 0, .string ByteArray.empty] := hXZ
  obtain ⟨gX, hgXe⟩ : ∃ x, x = W4.heap.size := ⟨_, rfl⟩
  have hKs := keeps_setRow (W4.alloc (.cells #[.int .i64 0, .int .i64 0, .int .i64 0, .int .i64 0, .int .i64 0, .int .i64 0, .string ⟨#[]⟩, .bool false, .int .i64 0, .int .i64 0, .slice none 0 0, .slice none 0 0, .bool false, .int .i64 0, .int .i64 0, .int .i64 0, .int .i64 0, .string ⟨#[]⟩] 29)) (g := gX) #[.int .i64 x0, .int .i64 x1, .int .i64 x2, .int .i64 x3, .int .i64 x4, .int .i64 x5, .string (st xn), .bool xd, .int .i64 xv, .int .i64 xp, .slice Xq mq dq, .slice Xd md dd, .bool yd, .int .i64 yv, .int .i64 yp, .int .i64 x6, .int .i64 x7, .string (st xm)]
  have hbal : Below W4.heap.size W4 (W4.alloc (.cells #[.int .i64 0, .int .i64 0, .int .i64 0, .int .i64 0, .int .i64 0, .int .i64 0, .string ⟨#[]⟩, .bool false, .int .i64 0, .int .i64 0, .slice none 0 0, .slice none 0 0, .bool false, .int .i64 0, .int .i64 0, .int .i64 0, .int .i64 0, .string ⟨#[]⟩] 29)) := (Below.refl _ _).alloc (Nat.le_refl _) _
  have hbk : Below W4.heap.size W4 ((W4.alloc (.cells #[.int .i64 0, .int .i64 0, .int .i64 0, .int .i64 0, .int .i64 0, .int .i64 0, .string ⟨#[]⟩, .bool false, .int .i64 0, .int .i64 0, .slice none 0 0, .slice none 0 0, .bool false, .int .i64 0, .int .i64 0, .int .i64 0, .int .i64 0, .string ⟨#[]⟩] 29)).setRow gX #[.int .i64 x0, .int .i64 x1, .int .i64 x2, .int .i64 x3, .int .i64 x4, .int .i64 x5, .string (st xn), .bool xd, .int .i64 xv, .int .i64 xp, .slice Xq mq dq, .slice Xd md dd, .bool yd, .int .i64 yv, .int .i64 yp, .int .i64 x6, .int .i64 x7, .string (st xm)]) := hbal.trans (hKs.is (by omega) (by rw [hgXe]; simp))
  have hX5 : Blk ((W4.alloc (.cells #[.int .i64 0, .int .i64 0, .int .i64 0, .int .i64 0, .int .i64 0, .int .i64 0, .string ⟨#[]⟩, .bool false, .int .i64 0, .int .i64 0, .slice none 0 0, .slice none 0 0, .bool false, .int .i64 0, .int .i64 0, .int .i64 0, .int .i64 0, .string ⟨#[]⟩] 29)).setRow gX #[.int .i64 x0, .int .i64 x1, .int .i64 x2, .int .i64 x3, .int .i64 x4, .int .i64 x5, .string (st xn), .bool xd, .int .i64 xv, .int .i64 xp, .slice Xq mq dq, .slice Xd md dd, .bool yd, .int .i64 yv, .int .i64 yp, .int .i64 x6, .int .i64 x7, .string (st xm)]) gX 29 [.int .i64 x0, .int .i64 x1, .int .i64 x2, .int .i64 x3, .int .i64 x4, .int .i64 x5, .string (st xn), .bool xd, .int .i64 xv, .int .i64 xp, .slice Xq mq dq, .slice Xd md dd, .bool yd, .int .i64 yv, .int .i64 yp, .int .i64 x6, .int .i64 x7, .string (st xm)] := by
    rw [hgXe]; exact hW4a.setRow [.int .i64 x0, .int .i64 x1, .int .i64 x2, .int .i64 x3, .int .i64 x4, .int .i64 x5, .string (st xn), .bool xd, .int .i64 xv, .int .i64 xp, .slice Xq mq dq, .slice Xd md dd, .bool yd, .int .i64 yv, .int .i64 yp, .int .i64 x6, .int .i64 x7, .string (st xm)]
  have hZ5 := (HZ.out.up hb4).up hbk
  have hoq5 := hoq.up hbk
  have hod5 := hod.up hbk
  have hB5 := HB2.out.trans ((Up.trans hb4 hbk).mono (by omega : w.heap.size ≤ W2.heap.size))
  have hX5s : gX < ((W4.alloc (.cells #[.int .i64 0, .int .i64 0, .int .i64 0, .int .i64 0, .int .i64 0, .int .i64 0, .string ⟨#[]⟩, .bool false, .int .i64 0, .int .i64 0, .slice none 0 0, .slice none 0 0, .bool false, .int .i64 0, .int .i64 0, .int .i64 0, .int .i64 0, .string ⟨#[]⟩] 29)).setRow gX #[.int .i64 x0, .int .i64 x1, .int .i64 x2, .int .i64 x3, .int .i64 x4, .int .i64 x5, .string (st xn), .bool xd, .int .i64 xv, .int .i64 xp, .slice Xq mq dq, .slice Xd md dd, .bool yd, .int .i64 yv, .int .i64 yp, .int .i64 x6, .int .i64 x7, .string (st xm)]).heap.size := hX5.lt
  have HX5 := Lib.hid hX5
  have HZ5 := Lib.hid hZ5
  have HQ5 := Lib.hid hoq5
  have HD5 := Lib.hid hod5
  have HB5 := Lib.hid hB5
  have HGX := Lib.hid hgXe
  have gXZ : gX ≠ gZ := by omega
  have gXw : w.heap.size ≤ gX := by omega
  have gWX : W2.heap.size ≤ gX := by omega
  clear hXZ hKs hbal hbk hX5 hZ5 hoq hod hoq5 hod5 hB5 hb4 hgXe
  go_upto_region 2 with (refine wpList_storeBlk rfl (.tmp 9) (.tmp 11) rfl rfl [.int .i64 x0, .int .i64 x1, .int .i64 x2, .int .i64 x3, .int .i64 x4, .int .i64 x5, .string (st xn), .bool xd, .int .i64 xv, .int .i64 xp, .slice Xq mq dq, .slice Xd md dd, .bool yd, .int .i64 yv, .int .i64 yp, .int .i64 x6, .int .i64 x7, .string (st xm)] rfl rfl (by kernel_rfl) hW4a rfl (by simp [Value.oneCell']) ?_)
  rw [← HGX.out]
  generalize (W4.alloc (.cells #[.int .i64 0, .int .i64 0, .int .i64 0, .int .i64 0, .int .i64 0, .int .i64 0, .string ⟨#[]⟩, .bool false, .int .i64 0, .int .i64 0, .slice none 0 0, .slice none 0 0, .bool false, .int .i64 0, .int .i64 0, .int .i64 0, .int .i64 0, .string ⟨#[]⟩] 29)).setRow gX #[.int .i64 x0, .int .i64 x1, .int .i64 x2, .int .i64 x3, .int .i64 x4, .int .i64 x5, .string (st xn), .bool xd, .int .i64 xv, .int .i64 xp, .slice Xq mq dq, .slice Xd md dd, .bool yd, .int .i64 yv, .int .i64 yp, .int .i64 x6, .int .i64 x7, .string (st xm)] = W5 at HX5 HZ5 HQ5 HD5 HB5 hX5s ⊢
  clear hW4a
  have hnq := HQ5.out.len
  have hnd := HD5.out.len
  simp only [List.length_map] at hnq
  go_wp2_with fail
  refine (tAround_det which 14 _ hw.1 hw.2 (by omega) (by omega)).mono ?_
  rintro e w' ⟨rfl, rfl⟩
  rw [show up0 which % (14 : Nat) = 1 from hk]
  have ku := HX5.out.cell 1 _ rfl
  have kf := HX5.out.free 1
  have hX6 := HX5.out.set 1 (.int .i64 n)
  have hZ6 := HZ5.out.other (p := ⟨gX, 1, none⟩) gXZ (.int .i64 n)
  have hk6 : Keeps (Is gX) W5 (W5.setCell ⟨gX, 1, none⟩ (.int .i64 n)) := (Keeps.refl (Is gX) _).setCell (p := ⟨gX, 1, none⟩) (.inl rfl) _
  have hQ6 : OwR (W5.setCell ⟨gX, 1, none⟩ (.int .i64 n)) W2.heap.size 23 3 Xq mq dq (xq.map qidC) := OwR.farG HQ5.out HX5.out (by decide) hk6
  have hD6 : OwB (W5.setCell ⟨gX, 1, none⟩ (.int .i64 n)) W2.heap.size Xd md dd xl := OwB.farG HD5.out HX5.out (by decide) hk6
  have hB6 := HB5.out.trans (hk6.is gXw (Nat.le_of_lt hX5s))
  go_upto_region 30 with fail
  generalize W5.setCell ⟨gX, 1, none⟩ (.int .i64 n) = W6 at hX6 hZ6 hQ6 hD6 hB6 ⊢
  have HZ6 := Lib.hid hZ6
  have HQ6 := Lib.hid hQ6
  have HD6 := Lib.hid hD6
  have HB6 := Lib.hid hB6
  clear ku kf hk6 hZ6 hQ6 hD6 hB6
  have hl1 : xq.length ≤ 8 := hlens.1
  have hl2 : xl.length ≤ 30 := hlens.2.1
  have hl3 : xn.length ≤ 40 := hlens.2.2.1
  have hl4 : xm.length ≤ 40 := hlens.2.2.2
  have hpost : Keeps (Is gZ) W6 (W6.setRow gZ #[.int .i64 x0, .int .i64 n, .int .i64 x2, .int .i64 x3, .int .i64 x4, .int .i64 x5, .string (st xn), .bool xd, .int .i64 xv, .int .i64 xp, .slice Xq mq dq, .slice Xd md dd, .bool yd, .int .i64 yv, .int .i64 yp, .int .i64 x6, .int .i64 x7, .string (st xm)]) → OddPost w (.returned (.agg #[.int .i64 x0, .int .i64 n, .int .i64 x2, .int .i64 x3, .int .i64 x4, .int .i64 x5, .string (st xn), .bool xd, .int .i64 xv, .int .i64 xp, .slice Xq mq dq, .slice Xd md dd, .bool yd, .int .i64 yv, .int .i64 yp, .int .i64 x6, .int .i64 x7, .string (st xm)])) (W6.setRow gZ #[.int .i64 x0, .int .i64 n, .int .i64 x2, .int .i64 x3, .int .i64 x4, .int .i64 x5, .string (st xn), .bool xd, .int .i64 xv, .int .i64 xp, .slice Xq mq dq, .slice Xd md dd, .bool yd, .int .i64 yv, .int .i64 yp, .int .i64 x6, .int .i64 x7, .string (st xm)]) := by
    intro hKz
    refine ⟨⟨x0, n, x2, x3, x4, x5, xn, ⟨xd, xv, xp⟩, xq, xl, ⟨yd, yv, yp⟩, x6, x7, xm⟩, Xq, mq, dq, Xd, md, dd, rfl, ⟨?_, ?_, ?_, ?_, ?_, ?_⟩, below_setRow HB6.out (by omega) _⟩
    · exact OwR.rd (OwR.keeps HQ6.out hKz (fun k hk e => by have e' : k = gZ := e; omega))
    · exact OwB.rd (Own.keeps HD6.out hKz (fun k hk e => by have e' : k = gZ := e; omega))
    · omega
    · omega
    · first | exact Nat.le_trans hl3 (by omega) | exact Nat.le_trans hs3l (by omega)
    · first | exact Nat.le_trans hl4 (by omega) | exact Nat.le_trans hs3l (by omega)
  have HPOST := Lib.hid hpost
  clear hpost
  have hXf := hX6
  have hF := HZ6.out.setRow [.int .i64 x0, .int .i64 n, .int .i64 x2, .int .i64 x3, .int .i64 x4, .int .i64 x5, .string (st xn), .bool xd, .int .i64 xv, .int .i64 xp, .slice Xq mq dq, .slice Xd md dd, .bool yd, .int .i64 yv, .int .i64 yp, .int .i64 x6, .int .i64 x7, .string (st xm)]
  go_wp2_with first
    | (refine wpList_loadBlk rfl (.tmp 9) rfl rfl (by kernel_rfl) tellT_agg hXf ?_; simp only [Act.put, List.setIfInBounds_toArray, List.set_cons_succ, List.set_cons_zero])
    | (refine wpList_storeBlk rfl (.tmp 8) (.tmp 82) rfl rfl [.int .i64 x0, .int .i64 n, .int .i64 x2, .int .i64 x3, .int .i64 x4, .int .i64 x5, .string (st xn), .bool xd, .int .i64 xv, .int .i64 xp, .slice Xq mq dq, .slice Xd md dd, .bool yd, .int .i64 yv, .int .i64 yp, .int .i64 x6, .int .i64 x7, .string (st xm)] rfl rfl (by kernel_rfl) HZ6.out rfl (by simp [Value.oneCell']) ?_)
  have hKz := keeps_setRow W6 (g := gZ) #[.int .i64 x0, .int .i64 n, .int .i64 x2, .int .i64 x3, .int .i64 x4, .int .i64 x5, .string (st xn), .bool xd, .int .i64 xv, .int .i64 xp, .slice Xq mq dq, .slice Xd md dd, .bool yd, .int .i64 yv, .int .i64 yp, .int .i64 x6, .int .i64 x7, .string (st xm)]
  exact bodyPost_ret (v := .agg #[.int .i64 x0, .int .i64 n, .int .i64 x2, .int .i64 x3, .int .i64 x4, .int .i64 x5, .string (st xn), .bool xd, .int .i64 xv, .int .i64 xp, .slice Xq mq dq, .slice Xd md dd, .bool yd, .int .i64 yv, .int .i64 yp, .int .i64 x6, .int .i64 x7, .string (st xm)]) (results_cellBlk Try.results11 rfl hF (by kernel_rfl) tellT_agg) rfl (HPOST.out hKz)

set_option maxRecDepth 100000 in
set_option maxHeartbeats 4000000 in
theorem odd_2 (kind tag code msize iounit count : Int) (name : List UInt8) (qdir : Bool) (qver qpath : Int) (qids : List QidV) (data : List UInt8) (sdir : Bool) (sver spath smode ssize : Int) (sname : List UInt8) (Aq : Option Addr) (nq cq : Nat) (Ad : Option Addr) (nd cd : Nat) (which n : Int) (s : List UInt8) (w : World)
    (hok : TellOk w w.heap.size ⟨kind, tag, code, msize, iounit, count, name, ⟨qdir, qver, qpath⟩, qids, data, ⟨sdir, sver, spath⟩, smode, ssize, sname⟩ Aq nq cq Ad nd cd) (hw : I64 which) (hs : s.length ≤ 9223372036854775807) (hk : up0 which % 14 = 2) :
    Calls Try.prog 11 #[.agg #[.int .i64 kind, .int .i64 tag, .int .i64 code, .int .i64 msize, .int .i64 iounit, .int .i64 count, .string (st name), .bool qdir, .int .i64 qver, .int .i64 qpath, .slice Aq nq cq, .slice Ad nd cd, .bool sdir, .int .i64 sver, .int .i64 spath, .int .i64 smode, .int .i64 ssize, .string (st sname)], .int .i64 which, .int .i64 n, .string (st s)] w (OddPost w) := by
  have hA0 := Blk.new w 29 [.int .i64 kind, .int .i64 tag, .int .i64 code, .int .i64 msize, .int .i64 iounit, .int .i64 count, .string (st name), .bool qdir, .int .i64 qver, .int .i64 qpath, .slice Aq nq cq, .slice Ad nd cd, .bool sdir, .int .i64 sver, .int .i64 spath, .int .i64 smode, .int .i64 ssize, .string (st sname)]
  have hZ0 := Blk.new (w.alloc (.cells #[.int .i64 kind, .int .i64 tag, .int .i64 code, .int .i64 msize, .int .i64 iounit, .int .i64 count, .string (st name), .bool qdir, .int .i64 qver, .int .i64 qpath, .slice Aq nq cq, .slice Ad nd cd, .bool sdir, .int .i64 sver, .int .i64 spath, .int .i64 smode, .int .i64 ssize, .string (st sname)] 29)) 29 [.int .i64 0, .int .i64 0, .int .i64 0, .int .i64 0, .int .i64 0, .int .i64 0, .string ByteArray.empty, .bool false, .int .i64 0, .int .i64 0, .slice none 0 0, .slice none 0 0, .bool false, .int .i64 0, .int .i64 0, .int .i64 0, .int .i64 0, .string ByteArray.empty]
  obtain ⟨W2, hW2⟩ : ∃ x, x = (w.alloc (.cells #[.int .i64 kind, .int .i64 tag, .int .i64 code, .int .i64 msize, .int .i64 iounit, .int .i64 count, .string (st name), .bool qdir, .int .i64 qver, .int .i64 qpath, .slice Aq nq cq, .slice Ad nd cd, .bool sdir, .int .i64 sver, .int .i64 spath, .int .i64 smode, .int .i64 ssize, .string (st sname)] 29)).alloc (.cells #[.int .i64 0, .int .i64 0, .int .i64 0, .int .i64 0, .int .i64 0, .int .i64 0, .string ByteArray.empty, .bool false, .int .i64 0, .int .i64 0, .slice none 0 0, .slice none 0 0, .bool false, .int .i64 0, .int .i64 0, .int .i64 0, .int .i64 0, .string ByteArray.empty] 29) := ⟨_, rfl⟩
  have hA2 : Blk W2 w.heap.size 29 [.int .i64 kind, .int .i64 tag, .int .i64 code, .int .i64 msize, .int .i64 iounit, .int .i64 count, .string (st name), .bool qdir, .int .i64 qver, .int .i64 qpath, .slice Aq nq cq, .slice Ad nd cd, .bool sdir, .int .i64 sver, .int .i64 spath, .int .i64 smode, .int .i64 ssize, .string (st sname)] := by rw [hW2]; exact hA0.alloc _
  have hZ2 : Blk W2 (w.heap.size + 1) 29 [.int .i64 0, .int .i64 0, .int .i64 0, .int .i64 0, .int .i64 0, .int .i64 0, .string ByteArray.empty, .bool false, .int .i64 0, .int .i64 0, .slice none 0 0, .slice none 0 0, .bool false, .int .i64 0, .int .i64 0, .int .i64 0, .int .i64 0, .string ByteArray.empty] := by rw [hW2]; simpa using hZ0
  have hb2 : Below w.heap.size w W2 := by rw [hW2]; exact ((Below.refl _ _).alloc (Nat.le_refl _) _).alloc (by simp) _
  have hW3 : W2 = (w.alloc (.cells #[.int .i64 kind, .int .i64 tag, .int .i64 code, .int .i64 msize, .int .i64 iounit, .int .i64 count, .string (st name), .bool qdir, .int .i64 qver, .int .i64 qpath, .slice Aq nq cq, .slice Ad nd cd, .bool sdir, .int .i64 sver, .int .i64 spath, .int .i64 smode, .int .i64 ssize, .string (st sname)] 29)).alloc (.cells #[.int .i64 0, .int .i64 0, .int .i64 0, .int .i64 0, .int .i64 0, .int .i64 0, .string ⟨#[]⟩, .bool false, .int .i64 0, .int .i64 0, .slice none 0 0, .slice none 0 0, .bool false, .int .i64 0, .int .i64 0, .int .i64 0, .int .i64 0, .string ⟨#[]⟩] 29) := hW2
  obtain ⟨gZ, hgZ⟩ : ∃ x, x = w.heap.size + 1 := ⟨_, rfl⟩
  rw [← hgZ] at hZ2
  have gA_lt : w.heap.size < gZ := by omega
  have gZ_lt : gZ < W2.heap.size := hZ2.lt
  have HZ := Lib.hid hZ2
  have HB2 := Lib.hid hb2
  have GZ := Lib.hid hgZ
  have HOK2 := Lib.hid ((show TellOk W2 W2.heap.size _ Aq nq cq Ad nd cd from { (hok.up hb2) with qids := (hok.qids.below hb2).more hb2.size, data := (hok.data.below hb2).more hb2.size }))
  clear hA0 hZ0 hZ2 hb2 hW2 hgZ hok
  go_enter Try.func11, Try.ntmps11
  go_upto_region 1 with fail
  rw [← hW3, ← GZ.out]
  clear hW3
  go_wp2_with (refine wpList_loadBlk rfl (.tmp 4) rfl rfl (by kernel_rfl) tellT_agg hA2 ?_; simp only [Act.put, List.setIfInBounds_toArray, List.set_cons_succ, List.set_cons_zero])
  refine (goodT_any kind tag code msize iounit count name qdir qver qpath qids data sdir sver spath smode ssize sname Aq nq cq Ad nd cd _ HOK2.out).mono ?_
  rintro e W4 ⟨x, Xq, mq, dq, Xd, md, dd, hx, rfl, hoq, hod, hb4⟩
  have hlens := goodT_lens ⟨kind, tag, code, msize, iounit, count, name, ⟨qdir, qver, qpath⟩, qids, data, ⟨sdir, sver, spath⟩, smode, ssize, sname⟩
  rw [← hx.out] at hlens
  clear hx hA2
  obtain ⟨x0, x1, x2, x3, x4, x5, xn, ⟨xd, xv, xp⟩, xq, xl, ⟨yd, yv, yp⟩, x6, x7, xm⟩ := x
  simp only [tellC]
  have hXZ := Blk.new W4 29 [.int .i64 0, .int .i64 0, .int .i64 0, .int .i64 0, .int .i64 0, .int .i64 0, .string ByteArray.empty, .bool false, .int .i64 0, .int .i64 0, .slice none 0 0, .slice none 0 0, .bool false, .int .i64 0, .int .i64 0, .int .i64 0, .int .i64 0, .string ByteArray.empty]
  have hgX : W2.heap.size ≤ W4.heap.size := hb4.size
  have hW4a : Blk (W4.alloc (.cells #[.int .i64 0, .int .i64 0, .int .i64 0, .int .i64 0, .int .i64 0, .int .i64 0, .string ⟨#[]⟩, .bool false, .int .i64 0, .int .i64 0, .slice none 0 0, .slice none 0 0, .bool false, .int .i64 0, .int .i64 0, .int .i64 0, .int .i64 0, .string ⟨#[]⟩] 29)) W4.heap.size 29 [.int .i64 0, .int .i64 0, .int .i64 0, .int .i64 0, .int .i64 0, .int .i64 0, .string ByteArray.empty, .bool false, .int .i64 0, .int .i64 0, .slice none 0 0, .slice none 0 0, .bool false, .int .i64 0, .int .i64 0, .int .i64 0, .int .i64 0, .string ByteArray.empty] := hXZ
  obtain ⟨gX, hgXe⟩ : ∃ x, x = W4.heap.size := ⟨_, rfl⟩
  have hKs := keeps_setRow (W4.alloc (.cells #[.int .i64 0, .int .i64 0, .int .i64 0, .int .i64 0, .int .i64 0, .int .i64 0, .string ⟨#[]⟩, .bool false, .int .i64 0, .int .i64 0, .slice none 0 0, .slice none 0 0, .bool false, .int .i64 0, .int .i64 0, .int .i64 0, .int .i64 0, .string ⟨#[]⟩] 29)) (g := gX) #[.int .i64 x0, .int .i64 x1, .int .i64 x2, .int .i64 x3, .int .i64 x4, .int .i64 x5, .string (st xn), .bool xd, .int .i64 xv, .int .i64 xp, .slice Xq mq dq, .slice Xd md dd, .bool yd, .int .i64 yv, .int .i64 yp, .int .i64 x6, .int .i64 x7, .string (st xm)]
  have hbal : Below W4.heap.size W4 (W4.alloc (.cells #[.int .i64 0, .int .i64 0, .int .i64 0, .int .i64 0, .int .i64 0, .int .i64 0, .string ⟨#[]⟩, .bool false, .int .i64 0, .int .i64 0, .slice none 0 0, .slice none 0 0, .bool false, .int .i64 0, .int .i64 0, .int .i64 0, .int .i64 0, .string ⟨#[]⟩] 29)) := (Below.refl _ _).alloc (Nat.le_refl _) _
  have hbk : Below W4.heap.size W4 ((W4.alloc (.cells #[.int .i64 0, .int .i64 0, .int .i64 0, .int .i64 0, .int .i64 0, .int .i64 0, .string ⟨#[]⟩, .bool false, .int .i64 0, .int .i64 0, .slice none 0 0, .slice none 0 0, .bool false, .int .i64 0, .int .i64 0, .int .i64 0, .int .i64 0, .string ⟨#[]⟩] 29)).setRow gX #[.int .i64 x0, .int .i64 x1, .int .i64 x2, .int .i64 x3, .int .i64 x4, .int .i64 x5, .string (st xn), .bool xd, .int .i64 xv, .int .i64 xp, .slice Xq mq dq, .slice Xd md dd, .bool yd, .int .i64 yv, .int .i64 yp, .int .i64 x6, .int .i64 x7, .string (st xm)]) := hbal.trans (hKs.is (by omega) (by rw [hgXe]; simp))
  have hX5 : Blk ((W4.alloc (.cells #[.int .i64 0, .int .i64 0, .int .i64 0, .int .i64 0, .int .i64 0, .int .i64 0, .string ⟨#[]⟩, .bool false, .int .i64 0, .int .i64 0, .slice none 0 0, .slice none 0 0, .bool false, .int .i64 0, .int .i64 0, .int .i64 0, .int .i64 0, .string ⟨#[]⟩] 29)).setRow gX #[.int .i64 x0, .int .i64 x1, .int .i64 x2, .int .i64 x3, .int .i64 x4, .int .i64 x5, .string (st xn), .bool xd, .int .i64 xv, .int .i64 xp, .slice Xq mq dq, .slice Xd md dd, .bool yd, .int .i64 yv, .int .i64 yp, .int .i64 x6, .int .i64 x7, .string (st xm)]) gX 29 [.int .i64 x0, .int .i64 x1, .int .i64 x2, .int .i64 x3, .int .i64 x4, .int .i64 x5, .string (st xn), .bool xd, .int .i64 xv, .int .i64 xp, .slice Xq mq dq, .slice Xd md dd, .bool yd, .int .i64 yv, .int .i64 yp, .int .i64 x6, .int .i64 x7, .string (st xm)] := by
    rw [hgXe]; exact hW4a.setRow [.int .i64 x0, .int .i64 x1, .int .i64 x2, .int .i64 x3, .int .i64 x4, .int .i64 x5, .string (st xn), .bool xd, .int .i64 xv, .int .i64 xp, .slice Xq mq dq, .slice Xd md dd, .bool yd, .int .i64 yv, .int .i64 yp, .int .i64 x6, .int .i64 x7, .string (st xm)]
  have hZ5 := (HZ.out.up hb4).up hbk
  have hoq5 := hoq.up hbk
  have hod5 := hod.up hbk
  have hB5 := HB2.out.trans ((Up.trans hb4 hbk).mono (by omega : w.heap.size ≤ W2.heap.size))
  have hX5s : gX < ((W4.alloc (.cells #[.int .i64 0, .int .i64 0, .int .i64 0, .int .i64 0, .int .i64 0, .int .i64 0, .string ⟨#[]⟩, .bool false, .int .i64 0, .int .i64 0, .slice none 0 0, .slice none 0 0, .bool false, .int .i64 0, .int .i64 0, .int .i64 0, .int .i64 0, .string ⟨#[]⟩] 29)).setRow gX #[.int .i64 x0, .int .i64 x1, .int .i64 x2, .int .i64 x3, .int .i64 x4, .int .i64 x5, .string (st xn), .bool xd, .int .i64 xv, .int .i64 xp, .slice Xq mq dq, .slice Xd md dd, .bool yd, .int .i64 yv, .int .i64 yp, .int .i64 x6, .int .i64 x7, .string (st xm)]).heap.size := hX5.lt
  have HX5 := Lib.hid hX5
  have HZ5 := Lib.hid hZ5
  have HQ5 := Lib.hid hoq5
  have HD5 := Lib.hid hod5
  have HB5 := Lib.hid hB5
  have HGX := Lib.hid hgXe
  have gXZ : gX ≠ gZ := by omega
  have gXw : w.heap.size ≤ gX := by omega
  have gWX : W2.heap.size ≤ gX := by omega
  clear hXZ hKs hbal hbk hX5 hZ5 hoq hod hoq5 hod5 hB5 hb4 hgXe
  go_upto_region 2 with (refine wpList_storeBlk rfl (.tmp 9) (.tmp 11) rfl rfl [.int .i64 x0, .int .i64 x1, .int .i64 x2, .int .i64 x3, .int .i64 x4, .int .i64 x5, .string (st xn), .bool xd, .int .i64 xv, .int .i64 xp, .slice Xq mq dq, .slice Xd md dd, .bool yd, .int .i64 yv, .int .i64 yp, .int .i64 x6, .int .i64 x7, .string (st xm)] rfl rfl (by kernel_rfl) hW4a rfl (by simp [Value.oneCell']) ?_)
  rw [← HGX.out]
  generalize (W4.alloc (.cells #[.int .i64 0, .int .i64 0, .int .i64 0, .int .i64 0, .int .i64 0, .int .i64 0, .string ⟨#[]⟩, .bool false, .int .i64 0, .int .i64 0, .slice none 0 0, .slice none 0 0, .bool false, .int .i64 0, .int .i64 0, .int .i64 0, .int .i64 0, .string ⟨#[]⟩] 29)).setRow gX #[.int .i64 x0, .int .i64 x1, .int .i64 x2, .int .i64 x3, .int .i64 x4, .int .i64 x5, .string (st xn), .bool xd, .int .i64 xv, .int .i64 xp, .slice Xq mq dq, .slice Xd md dd, .bool yd, .int .i64 yv, .int .i64 yp, .int .i64 x6, .int .i64 x7, .string (st xm)] = W5 at HX5 HZ5 HQ5 HD5 HB5 hX5s ⊢
  clear hW4a
  have hnq := HQ5.out.len
  have hnd := HD5.out.len
  simp only [List.length_map] at hnq
  go_wp2_with fail
  refine (tAround_det which 14 _ hw.1 hw.2 (by omega) (by omega)).mono ?_
  rintro e w' ⟨rfl, rfl⟩
  rw [show up0 which % (14 : Nat) = 2 from hk]
  have ku := HX5.out.cell 2 _ rfl
  have kf := HX5.out.free 2
  have hX6 := HX5.out.set 2 (.int .i64 n)
  have hZ6 := HZ5.out.other (p := ⟨gX, 2, none⟩) gXZ (.int .i64 n)
  have hk6 : Keeps (Is gX) W5 (W5.setCell ⟨gX, 2, none⟩ (.int .i64 n)) := (Keeps.refl (Is gX) _).setCell (p := ⟨gX, 2, none⟩) (.inl rfl) _
  have hQ6 : OwR (W5.setCell ⟨gX, 2, none⟩ (.int .i64 n)) W2.heap.size 23 3 Xq mq dq (xq.map qidC) := OwR.farG HQ5.out HX5.out (by decide) hk6
  have hD6 : OwB (W5.setCell ⟨gX, 2, none⟩ (.int .i64 n)) W2.heap.size Xd md dd xl := OwB.farG HD5.out HX5.out (by decide) hk6
  have hB6 := HB5.out.trans (hk6.is gXw (Nat.le_of_lt hX5s))
  go_upto_region 30 with fail
  generalize W5.setCell ⟨gX, 2, none⟩ (.int .i64 n) = W6 at hX6 hZ6 hQ6 hD6 hB6 ⊢
  have HZ6 := Lib.hid hZ6
  have HQ6 := Lib.hid hQ6
  have HD6 := Lib.hid hD6
  have HB6 := Lib.hid hB6
  clear ku kf hk6 hZ6 hQ6 hD6 hB6
  have hl1 : xq.length ≤ 8 := hlens.1
  have hl2 : xl.length ≤ 30 := hlens.2.1
  have hl3 : xn.length ≤ 40 := hlens.2.2.1
  have hl4 : xm.length ≤ 40 := hlens.2.2.2
  have hpost : Keeps (Is gZ) W6 (W6.setRow gZ #[.int .i64 x0, .int .i64 x1, .int .i64 n, .int .i64 x3, .int .i64 x4, .int .i64 x5, .string (st xn), .bool xd, .int .i64 xv, .int .i64 xp, .slice Xq mq dq, .slice Xd md dd, .bool yd, .int .i64 yv, .int .i64 yp, .int .i64 x6, .int .i64 x7, .string (st xm)]) → OddPost w (.returned (.agg #[.int .i64 x0, .int .i64 x1, .int .i64 n, .int .i64 x3, .int .i64 x4, .int .i64 x5, .string (st xn), .bool xd, .int .i64 xv, .int .i64 xp, .slice Xq mq dq, .slice Xd md dd, .bool yd, .int .i64 yv, .int .i64 yp, .int .i64 x6, .int .i64 x7, .string (st xm)])) (W6.setRow gZ #[.int .i64 x0, .int .i64 x1, .int .i64 n, .int .i64 x3, .int .i64 x4, .int .i64 x5, .string (st xn), .bool xd, .int .i64 xv, .int .i64 xp, .slice Xq mq dq, .slice Xd md dd, .bool yd, .int .i64 yv, .int .i64 yp, .int .i64 x6, .int .i64 x7, .string (st xm)]) := by
    intro hKz
    refine ⟨⟨x0, x1, n, x3, x4, x5, xn, ⟨xd, xv, xp⟩, xq, xl, ⟨yd, yv, yp⟩, x6, x7, xm⟩, Xq, mq, dq, Xd, md, dd, rfl, ⟨?_, ?_, ?_, ?_, ?_, ?_⟩, below_setRow HB6.out (by omega) _⟩
    · exact OwR.rd (OwR.keeps HQ6.out hKz (fun k hk e => by have e' : k = gZ := e; omega))
    · exact OwB.rd (Own.keeps HD6.out hKz (fun k hk e => by have e' : k = gZ := e; omega))
    · omega
    · omega
    · first | exact Nat.le_trans hl3 (by omega) | exact Nat.le_trans hs3l (by omega)
    · first | exact Nat.le_trans hl4 (by omega) | exact Nat.le_trans hs3l (by omega)
  have HPOST := Lib.hid hpost
  clear hpost
  have hXf := hX6
  have hF := HZ6.out.setRow [.int .i64 x0, .int .i64 x1, .int .i64 n, .int .i64 x3, .int .i64 x4, .int .i64 x5, .string (st xn), .bool xd, .int .i64 xv, .int .i64 xp, .slice Xq mq dq, .slice Xd md dd, .bool yd, .int .i64 yv, .int .i64 yp, .int .i64 x6, .int .i64 x7, .string (st xm)]
  go_wp2_with first
    | (refine wpList_loadBlk rfl (.tmp 9) rfl rfl (by kernel_rfl) tellT_agg hXf ?_; simp only [Act.put, List.setIfInBounds_toArray, List.set_cons_succ, List.set_cons_zero])
    | (refine wpList_storeBlk rfl (.tmp 8) (.tmp 82) rfl rfl [.int .i64 x0, .int .i64 x1, .int .i64 n, .int .i64 x3, .int .i64 x4, .int .i64 x5, .string (st xn), .bool xd, .int .i64 xv, .int .i64 xp, .slice Xq mq dq, .slice Xd md dd, .bool yd, .int .i64 yv, .int .i64 yp, .int .i64 x6, .int .i64 x7, .string (st xm)] rfl rfl (by kernel_rfl) HZ6.out rfl (by simp [Value.oneCell']) ?_)
  have hKz := keeps_setRow W6 (g := gZ) #[.int .i64 x0, .int .i64 x1, .int .i64 n, .int .i64 x3, .int .i64 x4, .int .i64 x5, .string (st xn), .bool xd, .int .i64 xv, .int .i64 xp, .slice Xq mq dq, .slice Xd md dd, .bool yd, .int .i64 yv, .int .i64 yp, .int .i64 x6, .int .i64 x7, .string (st xm)]
  exact bodyPost_ret (v := .agg #[.int .i64 x0, .int .i64 x1, .int .i64 n, .int .i64 x3, .int .i64 x4, .int .i64 x5, .string (st xn), .bool xd, .int .i64 xv, .int .i64 xp, .slice Xq mq dq, .slice Xd md dd, .bool yd, .int .i64 yv, .int .i64 yp, .int .i64 x6, .int .i64 x7, .string (st xm)]) (results_cellBlk Try.results11 rfl hF (by kernel_rfl) tellT_agg) rfl (HPOST.out hKz)

set_option maxRecDepth 100000 in
set_option maxHeartbeats 4000000 in
theorem odd_3 (kind tag code msize iounit count : Int) (name : List UInt8) (qdir : Bool) (qver qpath : Int) (qids : List QidV) (data : List UInt8) (sdir : Bool) (sver spath smode ssize : Int) (sname : List UInt8) (Aq : Option Addr) (nq cq : Nat) (Ad : Option Addr) (nd cd : Nat) (which n : Int) (s : List UInt8) (w : World)
    (hok : TellOk w w.heap.size ⟨kind, tag, code, msize, iounit, count, name, ⟨qdir, qver, qpath⟩, qids, data, ⟨sdir, sver, spath⟩, smode, ssize, sname⟩ Aq nq cq Ad nd cd) (hw : I64 which) (hs : s.length ≤ 9223372036854775807) (hk : up0 which % 14 = 3) :
    Calls Try.prog 11 #[.agg #[.int .i64 kind, .int .i64 tag, .int .i64 code, .int .i64 msize, .int .i64 iounit, .int .i64 count, .string (st name), .bool qdir, .int .i64 qver, .int .i64 qpath, .slice Aq nq cq, .slice Ad nd cd, .bool sdir, .int .i64 sver, .int .i64 spath, .int .i64 smode, .int .i64 ssize, .string (st sname)], .int .i64 which, .int .i64 n, .string (st s)] w (OddPost w) := by
  have hA0 := Blk.new w 29 [.int .i64 kind, .int .i64 tag, .int .i64 code, .int .i64 msize, .int .i64 iounit, .int .i64 count, .string (st name), .bool qdir, .int .i64 qver, .int .i64 qpath, .slice Aq nq cq, .slice Ad nd cd, .bool sdir, .int .i64 sver, .int .i64 spath, .int .i64 smode, .int .i64 ssize, .string (st sname)]
  have hZ0 := Blk.new (w.alloc (.cells #[.int .i64 kind, .int .i64 tag, .int .i64 code, .int .i64 msize, .int .i64 iounit, .int .i64 count, .string (st name), .bool qdir, .int .i64 qver, .int .i64 qpath, .slice Aq nq cq, .slice Ad nd cd, .bool sdir, .int .i64 sver, .int .i64 spath, .int .i64 smode, .int .i64 ssize, .string (st sname)] 29)) 29 [.int .i64 0, .int .i64 0, .int .i64 0, .int .i64 0, .int .i64 0, .int .i64 0, .string ByteArray.empty, .bool false, .int .i64 0, .int .i64 0, .slice none 0 0, .slice none 0 0, .bool false, .int .i64 0, .int .i64 0, .int .i64 0, .int .i64 0, .string ByteArray.empty]
  obtain ⟨W2, hW2⟩ : ∃ x, x = (w.alloc (.cells #[.int .i64 kind, .int .i64 tag, .int .i64 code, .int .i64 msize, .int .i64 iounit, .int .i64 count, .string (st name), .bool qdir, .int .i64 qver, .int .i64 qpath, .slice Aq nq cq, .slice Ad nd cd, .bool sdir, .int .i64 sver, .int .i64 spath, .int .i64 smode, .int .i64 ssize, .string (st sname)] 29)).alloc (.cells #[.int .i64 0, .int .i64 0, .int .i64 0, .int .i64 0, .int .i64 0, .int .i64 0, .string ByteArray.empty, .bool false, .int .i64 0, .int .i64 0, .slice none 0 0, .slice none 0 0, .bool false, .int .i64 0, .int .i64 0, .int .i64 0, .int .i64 0, .string ByteArray.empty] 29) := ⟨_, rfl⟩
  have hA2 : Blk W2 w.heap.size 29 [.int .i64 kind, .int .i64 tag, .int .i64 code, .int .i64 msize, .int .i64 iounit, .int .i64 count, .string (st name), .bool qdir, .int .i64 qver, .int .i64 qpath, .slice Aq nq cq, .slice Ad nd cd, .bool sdir, .int .i64 sver, .int .i64 spath, .int .i64 smode, .int .i64 ssize, .string (st sname)] := by rw [hW2]; exact hA0.alloc _
  have hZ2 : Blk W2 (w.heap.size + 1) 29 [.int .i64 0, .int .i64 0, .int .i64 0, .int .i64 0, .int .i64 0, .int .i64 0, .string ByteArray.empty, .bool false, .int .i64 0, .int .i64 0, .slice none 0 0, .slice none 0 0, .bool false, .int .i64 0, .int .i64 0, .int .i64 0, .int .i64 0, .string ByteArray.empty] := by rw [hW2]; simpa using hZ0
  have hb2 : Below w.heap.size w W2 := by rw [hW2]; exact ((Below.refl _ _).alloc (Nat.le_refl _) _).alloc (by simp) _
  have hW3 : W2 = (w.alloc (.cells #[.int .i64 kind, .int .i64 tag, .int .i64 code, .int .i64 msize, .int .i64 iounit, .int .i64 count, .string (st name), .bool qdir, .int .i64 qver, .int .i64 qpath, .slice Aq nq cq, .slice Ad nd cd, .bool sdir, .int .i64 sver, .int .i64 spath, .int .i64 smode, .int .i64 ssize, .string (st sname)] 29)).alloc (.cells #[.int .i64 0, .int .i64 0, .int .i64 0, .int .i64 0, .int .i64 0, .int .i64 0, .string ⟨#[]⟩, .bool false, .int .i64 0, .int .i64 0, .slice none 0 0, .slice none 0 0, .bool false, .int .i64 0, .int .i64 0, .int .i64 0, .int .i64 0, .string ⟨#[]⟩] 29) := hW2
  obtain ⟨gZ, hgZ⟩ : ∃ x, x = w.heap.size + 1 := ⟨_, rfl⟩
  rw [← hgZ] at hZ2
  have gA_lt : w.heap.size < gZ := by omega
  have gZ_lt : gZ < W2.heap.size := hZ2.lt
  have HZ := Lib.hid hZ2
  have HB2 := Lib.hid hb2
  have GZ := Lib.hid hgZ
  have HOK2 := Lib.hid ((show TellOk W2 W2.heap.size _ Aq nq cq Ad nd cd from { (hok.up hb2) with qids := (hok.qids.below hb2).more hb2.size, data := (hok.data.below hb2).more hb2.size }))
  clear hA0 hZ0 hZ2 hb2 hW2 hgZ hok
  go_enter Try.func11, Try.ntmps11
  go_upto_region 1 with fail
  rw [← hW3, ← GZ.out]
  clear hW3
  go_wp2_with (refine wpList_loadBlk rfl (.tmp 4) rfl rfl (by kernel_rfl) tellT_agg hA2 ?_; simp only [Act.put, List.setIfInBounds_toArray, List.set_cons_succ, List.set_cons_zero])
  refine (goodT_any kind tag code msize iounit count name qdir qver qpath qids data sdir sver spath smode ssize sname Aq nq cq Ad nd cd _ HOK2.out).mono ?_
  rintro e W4 ⟨x, Xq, mq, dq, Xd, md, dd, hx, rfl, hoq, hod, hb4⟩
  have hlens := goodT_lens ⟨kind, tag, code, msize, iounit, count, name, ⟨qdir, qver, qpath⟩, qids, data, ⟨sdir, sver, spath⟩, smode, ssize, sname⟩
  rw [← hx.out] at hlens
  clear hx hA2
  obtain ⟨x0, x1, x2, x3, x4, x5, xn, ⟨xd, xv, xp⟩, xq, xl, ⟨yd, yv, yp⟩, x6, x7, xm⟩ := x
  simp only [tellC]
  have hXZ := Blk.new W4 29 [.int .i64 0, .int .i64 0, .int .i64 0, .int .i64 0, .int .i64 0, .int .i64 0, .string ByteArray.empty, .bool false, .int .i64 0, .int .i64 0, .slice none 0 0, .slice none 0 0, .bool false, .int .i64 0, .int .i64 0, .int .i64 0, .int .i64 0, .string ByteArray.empty]
  have hgX : W2.heap.size ≤ W4.heap.size := hb4.size
  have hW4a : Blk (W4.alloc (.cells #[.int .i64 0, .int .i64 0, .int .i64 0, .int .i64 0, .int .i64 0, .int .i64 0, .string ⟨#[]⟩, .bool false, .int .i64 0, .int .i64 0, .slice none 0 0, .slice none 0 0, .bool false, .int .i64 0, .int .i64 0, .int .i64 0, .int .i64 0, .string ⟨#[]⟩] 29)) W4.heap.size 29 [.int .i64 0, .int .i64 0, .int .i64 0, .int .i64 0, .int .i64 0, .int .i64 0, .string ByteArray.empty, .bool false, .int .i64 0, .int .i64 0, .slice none 0 0, .slice none 0 0, .bool false, .int .i64 0, .int .i64 0, .int .i64 0, .int .i64 0, .string ByteArray.empty] := hXZ
  obtain ⟨gX, hgXe⟩ : ∃ x, x = W4.heap.size := ⟨_, rfl⟩
  have hKs := keeps_setRow (W4.alloc (.cells #[.int .i64 0, .int .i64 0, .int .i64 0, .int .i64 0, .int .i64 0, .int .i64 0, .string ⟨#[]⟩, .bool false, .int .i64 0, .int .i64 0, .slice none 0 0, .slice none 0 0, .bool false, .int .i64 0, .int .i64 0, .int .i64 0, .int .i64 0, .string ⟨#[]⟩] 29)) (g := gX) #[.int .i64 x0, .int .i64 x1, .int .i64 x2, .int .i64 x3, .int .i64 x4, .int .i64 x5, .string (st xn), .bool xd, .int .i64 xv, .int .i64 xp, .slice Xq mq dq, .slice Xd md dd, .bool yd, .int .i64 yv, .int .i64 yp, .int .i64 x6, .int .i64 x7, .string (st xm)]
  have hbal : Below W4.heap.size W4 (W4.alloc (.cells #[.int .i64 0, .int .i64 0, .int .i64 0, .int .i64 0, .int .i64 0, .int .i64 0, .string ⟨#[]⟩, .bool false, .int .i64 0, .int .i64 0, .slice none 0 0, .slice none 0 0, .bool false, .int .i64 0, .int .i64 0, .int .i64 0, .int .i64 0, .string ⟨#[]⟩] 29)) := (Below.refl _ _).alloc (Nat.le_refl _) _
  have hbk : Below W4.heap.size W4 ((W4.alloc (.cells #[.int .i64 0, .int .i64 0, .int .i64 0, .int .i64 0, .int .i64 0, .int .i64 0, .string ⟨#[]⟩, .bool false, .int .i64 0, .int .i64 0, .slice none 0 0, .slice none 0 0, .bool false, .int .i64 0, .int .i64 0, .int .i64 0, .int .i64 0, .string ⟨#[]⟩] 29)).setRow gX #[.int .i64 x0, .int .i64 x1, .int .i64 x2, .int .i64 x3, .int .i64 x4, .int .i64 x5, .string (st xn), .bool xd, .int .i64 xv, .int .i64 xp, .slice Xq mq dq, .slice Xd md dd, .bool yd, .int .i64 yv, .int .i64 yp, .int .i64 x6, .int .i64 x7, .string (st xm)]) := hbal.trans (hKs.is (by omega) (by rw [hgXe]; simp))
  have hX5 : Blk ((W4.alloc (.cells #[.int .i64 0, .int .i64 0, .int .i64 0, .int .i64 0, .int .i64 0, .int .i64 0, .string ⟨#[]⟩, .bool false, .int .i64 0, .int .i64 0, .slice none 0 0, .slice none 0 0, .bool false, .int .i64 0, .int .i64 0, .int .i64 0, .int .i64 0, .string ⟨#[]⟩] 29)).setRow gX #[.int .i64 x0, .int .i64 x1, .int .i64 x2, .int .i64 x3, .int .i64 x4, .int .i64 x5, .string (st xn), .bool xd, .int .i64 xv, .int .i64 xp, .slice Xq mq dq, .slice Xd md dd, .bool yd, .int .i64 yv, .int .i64 yp, .int .i64 x6, .int .i64 x7, .string (st xm)]) gX 29 [.int .i64 x0, .int .i64 x1, .int .i64 x2, .int .i64 x3, .int .i64 x4, .int .i64 x5, .string (st xn), .bool xd, .int .i64 xv, .int .i64 xp, .slice Xq mq dq, .slice Xd md dd, .bool yd, .int .i64 yv, .int .i64 yp, .int .i64 x6, .int .i64 x7, .string (st xm)] := by
    rw [hgXe]; exact hW4a.setRow [.int .i64 x0, .int .i64 x1, .int .i64 x2, .int .i64 x3, .int .i64 x4, .int .i64 x5, .string (st xn), .bool xd, .int .i64 xv, .int .i64 xp, .slice Xq mq dq, .slice Xd md dd, .bool yd, .int .i64 yv, .int .i64 yp, .int .i64 x6, .int .i64 x7, .string (st xm)]
  have hZ5 := (HZ.out.up hb4).up hbk
  have hoq5 := hoq.up hbk
  have hod5 := hod.up hbk
  have hB5 := HB2.out.trans ((Up.trans hb4 hbk).mono (by omega : w.heap.size ≤ W2.heap.size))
  have hX5s : gX < ((W4.alloc (.cells #[.int .i64 0, .int .i64 0, .int .i64 0, .int .i64 0, .int .i64 0, .int .i64 0, .string ⟨#[]⟩, .bool false, .int .i64 0, .int .i64 0, .slice none 0 0, .slice none 0 0, .bool false, .int .i64 0, .int .i64 0, .int .i64 0, .int .i64 0, .string ⟨#[]⟩] 29)).setRow gX #[.int .i64 x0, .int .i64 x1, .int .i64 x2, .int .i64 x3, .int .i64 x4, .int .i64 x5, .string (st xn), .bool xd, .int .i64 xv, .int .i64 xp, .slice Xq mq dq, .slice Xd md dd, .bool yd, .int .i64 yv, .int .i64 yp, .int .i64 x6, .int .i64 x7, .string (st xm)]).heap.size := hX5.lt
  have HX5 := Lib.hid hX5
  have HZ5 := Lib.hid hZ5
  have HQ5 := Lib.hid hoq5
  have HD5 := Lib.hid hod5
  have HB5 := Lib.hid hB5
  have HGX := Lib.hid hgXe
  have gXZ : gX ≠ gZ := by omega
  have gXw : w.heap.size ≤ gX := by omega
  have gWX : W2.heap.size ≤ gX := by omega
  clear hXZ hKs hbal hbk hX5 hZ5 hoq hod hoq5 hod5 hB5 hb4 hgXe
  go_upto_region 2 with (refine wpList_storeBlk rfl (.tmp 9) (.tmp 11) rfl rfl [.int .i64 x0, .int .i64 x1, .int .i64 x2, .int .i64 x3, .int .i64 x4, .int .i64 x5, .string (st xn), .bool xd, .int .i64 xv, .int .i64 xp, .slice Xq mq dq, .slice Xd md dd, .bool yd, .int .i64 yv, .int .i64 yp, .int .i64 x6, .int .i64 x7, .string (st xm)] rfl rfl (by kernel_rfl) hW4a rfl (by simp [Value.oneCell']) ?_)
  rw [← HGX.out]
  generalize (W4.alloc (.cells #[.int .i64 0, .int .i64 0, .int .i64 0, .int .i64 0, .int .i64 0, .int .i64 0, .string ⟨#[]⟩, .bool false, .int .i64 0, .int .i64 0, .slice none 0 0, .slice none 0 0, .bool false, .int .i64 0, .int .i64 0, .int .i64 0, .int .i64 0, .string ⟨#[]⟩] 29)).setRow gX #[.int .i64 x0, .int .i64 x1, .int .i64 x2, .int .i64 x3, .int .i64 x4, .int .i64 x5, .string (st xn), .bool xd, .int .i64 xv, .int .i64 xp, .slice Xq mq dq, .slice Xd md dd, .bool yd, .int .i64 yv, .int .i64 yp, .int .i64 x6, .int .i64 x7, .string (st xm)] = W5 at HX5 HZ5 HQ5 HD5 HB5 hX5s ⊢
  clear hW4a
  have hnq := HQ5.out.len
  have hnd := HD5.out.len
  simp only [List.length_map] at hnq
  go_wp2_with fail
  refine (tAround_det which 14 _ hw.1 hw.2 (by omega) (by omega)).mono ?_
  rintro e w' ⟨rfl, rfl⟩
  rw [show up0 which % (14 : Nat) = 3 from hk]
  have ku := HX5.out.cell 3 _ rfl
  have kf := HX5.out.free 3
  have hX6 := HX5.out.set 3 (.int .i64 n)
  have hZ6 := HZ5.out.other (p := ⟨gX, 3, none⟩) gXZ (.int .i64 n)
  have hk6 : Keeps (Is gX) W5 (W5.setCell ⟨gX, 3, none⟩ (.int .i64 n)) := (Keeps.refl (Is gX) _).setCell (p := ⟨gX, 3, none⟩) (.inl rfl) _
  have hQ6 : OwR (W5.setCell ⟨gX, 3, none⟩ (.int .i64 n)) W2.heap.size 23 3 Xq mq dq (xq.map qidC) := OwR.farG HQ5.out HX5.out (by decide) hk6
  have hD6 : OwB (W5.setCell ⟨gX, 3, none⟩ (.int .i64 n)) W2.heap.size Xd md dd xl := OwB.farG HD5.out HX5.out (by decide) hk6
  have hB6 := HB5.out.trans (hk6.is gXw (Nat.le_of_lt hX5s))
  go_upto_region 30 with fail
  generalize W5.setCell ⟨gX, 3, none⟩ (.int .i64 n) = W6 at hX6 hZ6 hQ6 hD6 hB6 ⊢
  have HZ6 := Lib.hid hZ6
  have HQ6 := Lib.hid hQ6
  have HD6 := Lib.hid hD6
  have HB6 := Lib.hid hB6
  clear ku kf hk6 hZ6 hQ6 hD6 hB6
  have hl1 : xq.length ≤ 8 := hlens.1
  have hl2 : xl.length ≤ 30 := hlens.2.1
  have hl3 : xn.length ≤ 40 := hlens.2.2.1
  have hl4 : xm.length ≤ 40 := hlens.2.2.2
  have hpost : Keeps (Is gZ) W6 (W6.setRow gZ #[.int .i64 x0, .int .i64 x1, .int .i64 x2, .int .i64 n, .int .i64 x4, .int .i64 x5, .string (st xn), .bool xd, .int .i64 xv, .int .i64 xp, .slice Xq mq dq, .slice Xd md dd, .bool yd, .int .i64 yv, .int .i64 yp, .int .i64 x6, .int .i64 x7, .string (st xm)]) → OddPost w (.returned (.agg #[.int .i64 x0, .int .i64 x1, .int .i64 x2, .int .i64 n, .int .i64 x4, .int .i64 x5, .string (st xn), .bool xd, .int .i64 xv, .int .i64 xp, .slice Xq mq dq, .slice Xd md dd, .bool yd, .int .i64 yv, .int .i64 yp, .int .i64 x6, .int .i64 x7, .string (st xm)])) (W6.setRow gZ #[.int .i64 x0, .int .i64 x1, .int .i64 x2, .int .i64 n, .int .i64 x4, .int .i64 x5, .string (st xn), .bool xd, .int .i64 xv, .int .i64 xp, .slice Xq mq dq, .slice Xd md dd, .bool yd, .int .i64 yv, .int .i64 yp, .int .i64 x6, .int .i64 x7, .string (st xm)]) := by
    intro hKz
    refine ⟨⟨x0, x1, x2, n, x4, x5, xn, ⟨xd, xv, xp⟩, xq, xl, ⟨yd, yv, yp⟩, x6, x7, xm⟩, Xq, mq, dq, Xd, md, dd, rfl, ⟨?_, ?_, ?_, ?_, ?_, ?_⟩, below_setRow HB6.out (by omega) _⟩
    · exact OwR.rd (OwR.keeps HQ6.out hKz (fun k hk e => by have e' : k = gZ := e; omega))
    · exact OwB.rd (Own.keeps HD6.out hKz (fun k hk e => by have e' : k = gZ := e; omega))
    · omega
    · omega
    · first | exact Nat.le_trans hl3 (by omega) | exact Nat.le_trans hs3l (by omega)
    · first | exact Nat.le_trans hl4 (by omega) | exact Nat.le_trans hs3l (by omega)
  have HPOST := Lib.hid hpost
  clear hpost
  have hXf := hX6
  have hF := HZ6.out.setRow [.int .i64 x0, .int .i64 x1, .int .i64 x2, .int .i64 n, .int .i64 x4, .int .i64 x5, .string (st xn), .bool xd, .int .i64 xv, .int .i64 xp, .slice Xq mq dq, .slice Xd md dd, .bool yd, .int .i64 yv, .int .i64 yp, .int .i64 x6, .int .i64 x7, .string (st xm)]
  go_wp2_with first
    | (refine wpList_loadBlk rfl (.tmp 9) rfl rfl (by kernel_rfl) tellT_agg hXf ?_; simp only [Act.put, List.setIfInBounds_toArray, List.set_cons_succ, List.set_cons_zero])
    | (refine wpList_storeBlk rfl (.tmp 8) (.tmp 82) rfl rfl [.int .i64 x0, .int .i64 x1, .int .i64 x2, .int .i64 n, .int .i64 x4, .int .i64 x5, .string (st xn), .bool xd, .int .i64 xv, .int .i64 xp, .slice Xq mq dq, .slice Xd md dd, .bool yd, .int .i64 yv, .int .i64 yp, .int .i64 x6, .int .i64 x7, .string (st xm)] rfl rfl (by kernel_rfl) HZ6.out rfl (by simp [Value.oneCell']) ?_)
  have hKz := keeps_setRow W6 (g := gZ) #[.int .i64 x0, .int .i64 x1, .int .i64 x2, .int .i64 n, .int .i64 x4, .int .i64 x5, .string (st xn), .bool xd, .int .i64 xv, .int .i64 xp, .slice Xq mq dq, .slice Xd md dd, .bool yd, .int .i64 yv, .int .i64 yp, .int .i64 x6, .int .i64 x7, .string (st xm)]
  exact bodyPost_ret (v := .agg #[.int .i64 x0, .int .i64 x1, .int .i64 x2, .int .i64 n, .int .i64 x4, .int .i64 x5, .string (st xn), .bool xd, .int .i64 xv, .int .i64 xp, .slice Xq mq dq, .slice Xd md dd, .bool yd, .int .i64 yv, .int .i64 yp, .int .i64 x6, .int .i64 x7, .string (st xm)]) (results_cellBlk Try.results11 rfl hF (by kernel_rfl) tellT_agg) rfl (HPOST.out hKz)

set_option maxRecDepth 100000 in
set_option maxHeartbeats 4000000 in
theorem odd_4 (kind tag code msize iounit count : Int) (name : List UInt8) (qdir : Bool) (qver qpath : Int) (qids : List QidV) (data : List UInt8) (sdir : Bool) (sver spath smode ssize : Int) (sname : List UInt8) (Aq : Option Addr) (nq cq : Nat) (Ad : Option Addr) (nd cd : Nat) (which n : Int) (s : List UInt8) (w : World)
    (hok : TellOk w w.heap.size ⟨kind, tag, code, msize, iounit, count, name, ⟨qdir, qver, qpath⟩, qids, data, ⟨sdir, sver, spath⟩, smode, ssize, sname⟩ Aq nq cq Ad nd cd) (hw : I64 which) (hs : s.length ≤ 9223372036854775807) (hk : up0 which % 14 = 4) :
    Calls Try.prog 11 #[.agg #[.int .i64 kind, .int .i64 tag, .int .i64 code, .int .i64 msize, .int .i64 iounit, .int .i64 count, .string (st name), .bool qdir, .int .i64 qver, .int .i64 qpath, .slice Aq nq cq, .slice Ad nd cd, .bool sdir, .int .i64 sver, .int .i64 spath, .int .i64 smode, .int .i64 ssize, .string (st sname)], .int .i64 which, .int .i64 n, .string (st s)] w (OddPost w) := by
  have hA0 := Blk.new w 29 [.int .i64 kind, .int .i64 tag, .int .i64 code, .int .i64 msize, .int .i64 iounit, .int .i64 count, .string (st name), .bool qdir, .int .i64 qver, .int .i64 qpath, .slice Aq nq cq, .slice Ad nd cd, .bool sdir, .int .i64 sver, .int .i64 spath, .int .i64 smode, .int .i64 ssize, .string (st sname)]
  have hZ0 := Blk.new (w.alloc (.cells #[.int .i64 kind, .int .i64 tag, .int .i64 code, .int .i64 msize, .int .i64 iounit, .int .i64 count, .string (st name), .bool qdir, .int .i64 qver, .int .i64 qpath, .slice Aq nq cq, .slice Ad nd cd, .bool sdir, .int .i64 sver, .int .i64 spath, .int .i64 smode, .int .i64 ssize, .string (st sname)] 29)) 29 [.int .i64 0, .int .i64 0, .int .i64 0, .int .i64 0, .int .i64 0, .int .i64 0, .string ByteArray.empty, .bool false, .int .i64 0, .int .i64 0, .slice none 0 0, .slice none 0 0, .bool false, .int .i64 0, .int .i64 0, .int .i64 0, .int .i64 0, .string ByteArray.empty]
  obtain ⟨W2, hW2⟩ : ∃ x, x = (w.alloc (.cells #[.int .i64 kind, .int .i64 tag, .int .i64 code, .int .i64 msize, .int .i64 iounit, .int .i64 count, .string (st name), .bool qdir, .int .i64 qver, .int .i64 qpath, .slice Aq nq cq, .slice Ad nd cd, .bool sdir, .int .i64 sver, .int .i64 spath, .int .i64 smode, .int .i64 ssize, .string (st sname)] 29)).alloc (.cells #[.int .i64 0, .int .i64 0, .int .i64 0, .int .i64 0, .int .i64 0, .int .i64 0, .string ByteArray.empty, .bool false, .int .i64 0, .int .i64 0, .slice none 0 0, .slice none 0 0, .bool false, .int .i64 0, .int .i64 0, .int .i64 0, .int .i64 0, .string ByteArray.empty] 29) := ⟨_, rfl⟩
  have hA2 : Blk W2 w.heap.size 29 [.int .i64 kind, .int .i64 tag, .int .i64 code, .int .i64 msize, .int .i64 iounit, .int .i64 count, .string (st name), .bool qdir, .int .i64 qver, .int .i64 qpath, .slice Aq nq cq, .slice Ad nd cd, .bool sdir, .int .i64 sver, .int .i64 spath, .int .i64 smode, .int .i64 ssize, .string (st sname)] := by rw [hW2]; exact hA0.alloc _
  have hZ2 : Blk W2 (w.heap.size + 1) 29 [.int .i64 0, .int .i64 0, .int .i64 0, .int .i64 0, .int .i64 0, .int .i64 0, .string ByteArray.empty, .bool false, .int .i64 0, .int .i64 0, .slice none 0 0, .slice none 0 0, .bool false, .int .i64 0, .int .i64 0, .int .i64 0, .int .i64 0, .string ByteArray.empty] := by rw [hW2]; simpa using hZ0
  have hb2 : Below w.heap.size w W2 := by rw [hW2]; exact ((Below.refl _ _).alloc (Nat.le_refl _) _).alloc (by simp) _
  have hW3 : W2 = (w.alloc (.cells #[.int .i64 kind, .int .i64 tag, .int .i64 code, .int .i64 msize, .int .i64 iounit, .int .i64 count, .string (st name), .bool qdir, .int .i64 qver, .int .i64 qpath, .slice Aq nq cq, .slice Ad nd cd, .bool sdir, .int .i64 sver, .int .i64 spath, .int .i64 smode, .int .i64 ssize, .string (st sname)] 29)).alloc (.cells #[.int .i64 0, .int .i64 0, .int .i64 0, .int .i64 0, .int .i64 0, .int .i64 0, .string ⟨#[]⟩, .bool false, .int .i64 0, .int .i64 0, .slice none 0 0, .slice none 0 0, .bool false, .int .i64 0, .int .i64 0, .int .i64 0, .int .i64 0, .string ⟨#[]⟩] 29) := hW2
  obtain ⟨gZ, hgZ⟩ : ∃ x, x = w.heap.size + 1 := ⟨_, rfl⟩
  rw [← hgZ] at hZ2
  have gA_lt : w.heap.size < gZ := by omega
  have gZ_lt : gZ < W2.heap.size := hZ2.lt
  have HZ := Lib.hid hZ2
  have HB2 := Lib.hid hb2
  have GZ := Lib.hid hgZ
  have HOK2 := Lib.hid ((show TellOk W2 W2.heap.size _ Aq nq cq Ad nd cd from { (hok.up hb2) with qids := (hok.qids.below hb2).more hb2.size, data := (hok.data.below hb2).more hb2.size }))
  clear hA0 hZ0 hZ2 hb2 hW2 hgZ hok
  go_enter Try.func11, Try.ntmps11
  go_upto_region 1 with fail
  rw [← hW3, ← GZ.out]
  clear hW3
  go_wp2_with (refine wpList_loadBlk rfl (.tmp 4) rfl rfl (by kernel_rfl) tellT_agg hA2 ?_; simp only [Act.put, List.setIfInBounds_toArray, List.set_cons_succ, List.set_cons_zero])
  refine (goodT_any kind tag code msize iounit count name qdir qver qpath qids data sdir sver spath smode ssize sname Aq nq cq Ad nd cd _ HOK2.out).mono ?_
  rintro e W4 ⟨x, Xq, mq, dq, Xd, md, dd, hx, rfl, hoq, hod, hb4⟩
  have hlens := goodT_lens ⟨kind, tag, code, msize, iounit, count, name, ⟨qdir, qver, qpath⟩, qids, data, ⟨sdir, sver, spath⟩, smode, ssize, sname⟩
  rw [← hx.out] at hlens
  clear hx hA2
  obtain ⟨x0, x1, x2, x3, x4, x5, xn, ⟨xd, xv, xp⟩, xq, xl, ⟨yd, yv, yp⟩, x6, x7, xm⟩ := x
  simp only [tellC]
  have hXZ := Blk.new W4 29 [.int .i64 0, .int .i64 0, .int .i64 0, .int .i64 0, .int .i64 0, .int .i64 0, .string ByteArray.empty, .bool false, .int .i64 0, .int .i64 0, .slice none 0 0, .slice none 0 0, .bool false, .int .i64 0, .int .i64 0, .int .i64 0, .int .i64 0, .string ByteArray.empty]
  have hgX : W2.heap.size ≤ W4.heap.size := hb4.size
  have hW4a : Blk (W4.alloc (.cells #[.int .i64 0, .int .i64 0, .int .i64 0, .int .i64 0, .int .i64 0, .int .i64 0, .string ⟨#[]⟩, .bool false, .int .i64 0, .int .i64 0, .slice none 0 0, .slice none 0 0, .bool false, .int .i64 0, .int .i64 0, .int .i64 0, .int .i64 0, .string ⟨#[]⟩] 29)) W4.heap.size 29 [.int .i64 0, .int .i64 0, .int .i64 0, .int .i64 0, .int .i64 0, .int .i64 0, .string ByteArray.empty, .bool false, .int .i64 0, .int .i64 0, .slice none 0 0, .slice none 0 0, .bool false, .int .i64 0, .int .i64 0, .int .i64 0, .int .i64 0, .string ByteArray.empty] := hXZ
  obtain ⟨gX, hgXe⟩ : ∃ x, x = W4.heap.size := ⟨_, rfl⟩
  have hKs := keeps_setRow (W4.alloc (.cells #[.int .i64 0, .int .i64 0, .int .i64 0, .int .i64 0, .int .i64 0, .int .i64 0, .string ⟨#[]⟩, .bool false, .int .i64 0, .int .i64 0, .slice none 0 0, .slice none 0 0, .bool false, .int .i64 0, .int .i64 0, .int .i64 0, .int .i64 0, .string ⟨#[]⟩] 29)) (g := gX) #[.int .i64 x0, .int .i64 x1, .int .i64 x2, .int .i64 x3, .int .i64 x4, .int .i64 x5, .string (st xn), .bool xd, .int .i64 xv, .int .i64 xp, .slice Xq mq dq, .slice Xd md dd, .bool yd, .int .i64 yv, .int .i64 yp, .int .i64 x6, .int .i64 x7, .string (st xm)]
  have hbal : Below W4.heap.size W4 (W4.alloc (.cells #[.int .i64 0, .int .i64 0, .int .i64 0, .int .i64 0, .int .i64 0, .int .i64 0, .string ⟨#[]⟩, .bool false, .int .i64 0, .int .i64 0, .slice none 0 0, .slice none 0 0, .bool false, .int .i64 0, .int .i64 0, .int .i64 0, .int .i64 0, .string ⟨#[]⟩] 29)) := (Below.refl _ _).alloc (Nat.le_refl _) _
  have hbk : Below W4.heap.size W4 ((W4.alloc (.cells #[.int .i64 0, .int .i64 0, .int .i64 0, .int .i64 0, .int .i64 0, .int .i64 0, .string ⟨#[]⟩, .bool false, .int .i64 0, .int .i64 0, .slice none 0 0, .slice none 0 0, .bool false, .int .i64 0, .int .i64 0, .int .i64 0, .int .i64 0, .string ⟨#[]⟩] 29)).setRow gX #[.int .i64 x0, .int .i64 x1, .int .i64 x2, .int .i64 x3, .int .i64 x4, .int .i64 x5, .string (st xn), .bool xd, .int .i64 xv, .int .i64 xp, .slice Xq mq dq, .slice Xd md dd, .bool yd, .int .i64 yv, .int .i64 yp, .int .i64 x6, .int .i64 x7, .string (st xm)]) := hbal.trans (hKs.is (by omega) (by rw [hgXe]; simp))
  have hX5 : Blk ((W4.alloc (.cells #[.int .i64 0, .int .i64 0, .int .i64 0, .int .i64 0, .int .i64 0, .int .i64 0, .string ⟨#[]⟩, .bool false, .int .i64 0, .int .i64 0, .slice none 0 0, .slice none 0 0, .bool false, .int .i64 0, .int .i64 0, .int .i64 0, .int .i64 0, .string ⟨#[]⟩] 29)).setRow gX #[.int .i64 x0, .int .i64 x1, .int .i64 x2, .int .i64 x3, .int .i64 x4, .int .i64 x5, .string (st xn), .bool xd, .int .i64 xv, .int .i64 xp, .slice Xq mq dq, .slice Xd md dd, .bool yd, .int .i64 yv, .int .i64 yp, .int .i64 x6, .int .i64 x7, .string (st xm)]) gX 29 [.int .i64 x0, .int .i64 x1, .int .i64 x2, .int .i64 x3, .int .i64 x4, .int .i64 x5, .string (st xn), .bool xd, .int .i64 xv, .int .i64 xp, .slice Xq mq dq, .slice Xd md dd, .bool yd, .int .i64 yv, .int .i64 yp, .int .i64 x6, .int .i64 x7, .string (st xm)] := by
    rw [hgXe]; exact hW4a.setRow [.int .i64 x0, .int .i64 x1, .int .i64 x2, .int .i64 x3, .int .i64 x4, .int .i64 x5, .string (st xn), .bool xd, .int .i64 xv, .int .i64 xp, .slice Xq mq dq, .slice Xd md dd, .bool yd, .int .i64 yv, .int .i64 yp, .int .i64 x6, .int .i64 x7, .string (st xm)]
  have hZ5 := (HZ.out.up hb4).up hbk
  have hoq5 := hoq.up hbk
  have hod5 := hod.up hbk
  have hB5 := HB2.out.trans ((Up.trans hb4 hbk).mono (by omega : w.heap.size ≤ W2.heap.size))
  have hX5s : gX < ((W4.alloc (.cells #[.int .i64 0, .int .i64 0, .int .i64 0, .int .i64 0, .int .i64 0, .int .i64 0, .string ⟨#[]⟩, .bool false, .int .i64 0, .int .i64 0, .slice none 0 0, .slice none 0 0, .bool false, .int .i64 0, .int .i64 0, .int .i64 0, .int .i64 0, .string ⟨#[]⟩] 29)).setRow gX #[.int .i64 x0, .int .i64 x1, .int .i64 x2, .int .i64 x3, .int .i64 x4, .int .i64 x5, .string (st xn), .bool xd, .int .i64 xv, .int .i64 xp, .slice Xq mq dq, .slice Xd md dd, .bool yd, .int .i64 yv, .int .i64 yp, .int .i64 x6, .int .i64 x7, .string (st xm)]).heap.size := hX5.lt
  have HX5 := Lib.hid hX5
  have HZ5 := Lib.hid hZ5
  have HQ5 := Lib.hid hoq5
  have HD5 := Lib.hid hod5
  have HB5 := Lib.hid hB5
  have HGX := Lib.hid hgXe
  have gXZ : gX ≠ gZ := by omega
  have gXw : w.heap.size ≤ gX := by omega
  have gWX : W2.heap.size ≤ gX := by omega
  clear hXZ hKs hbal hbk hX5 hZ5 hoq hod hoq5 hod5 hB5 hb4 hgXe
  go_upto_region 2 with (refine wpList_storeBlk rfl (.tmp 9) (.tmp 11) rfl rfl [.int .i64 x0, .int .i64 x1, .int .i64 x2, .int .i64 x3, .int .i64 x4, .int .i64 x5, .string (st xn), .bool xd, .int .i64 xv, .int .i64 xp, .slice Xq mq dq, .slice Xd md dd, .bool yd, .int .i64 yv, .int .i64 yp, .int .i64 x6, .int .i64 x7, .string (st xm)] rfl rfl (by kernel_rfl) hW4a rfl (by simp [Value.oneCell']) ?_)
  rw [← HGX.out]
  generalize (W4.alloc (.cells #[.int .i64 0, .int .i64 0, .int .i64 0, .int .i64 0, .int .i64 0, .int .i64 0, .string ⟨#[]⟩, .bool false, .int .i64 0, .int .i64 0, .slice none 0 0, .slice none 0 0, .bool false, .int .i64 0, .int .i64 0, .int .i64 0, .int .i64 0, .string ⟨#[]⟩] 29)).setRow gX #[.int .i64 x0, .int .i64 x1, .int .i64 x2, .int .i64 x3, .int .i64 x4, .int .i64 x5, .string (st xn), .bool xd, .int .i64 xv, .int .i64 xp, .slice Xq mq dq, .slice Xd md dd, .bool yd, .int .i64 yv, .int .i64 yp, .int .i64 x6, .int .i64 x7, .string (st xm)] = W5 at HX5 HZ5 HQ5 HD5 HB5 hX5s ⊢
  clear hW4a
  have hnq := HQ5.out.len
  have hnd := HD5.out.len
  simp only [List.length_map] at hnq
  go_wp2_with fail
  refine (tAround_det which 14 _ hw.1 hw.2 (by omega) (by omega)).mono ?_
  rintro e w' ⟨rfl, rfl⟩
  rw [show up0 which % (14 : Nat) = 4 from hk]
  have ku := HX5.out.cell 4 _ rfl
  have kf := HX5.out.free 4
  have hX6 := HX5.out.set 4 (.int .i64 n)
  have hZ6 := HZ5.out.other (p := ⟨gX, 4, none⟩) gXZ (.int .i64 n)
  have hk6 : Keeps (Is gX) W5 (W5.setCell ⟨gX, 4, none⟩ (.int .i64 n)) := (Keeps.refl (Is gX) _).setCell (p := ⟨gX, 4, none⟩) (.inl rfl) _
  have hQ6 : OwR (W5.setCell ⟨gX, 4, none⟩ (.int .i64 n)) W2.heap.size 23 3 Xq mq dq (xq.map qidC) := OwR.farG HQ5.out HX5.out (by decide) hk6
  have hD6 : OwB (W5.setCell ⟨gX, 4, none⟩ (.int .i64 n)) W2.heap.size Xd md dd xl := OwB.farG HD5.out HX5.out (by decide) hk6
  have hB6 := HB5.out.trans (hk6.is gXw (Nat.le_of_lt hX5s))
  go_upto_region 30 with fail
  generalize W5.setCell ⟨gX, 4, none⟩ (.int .i64 n) = W6 at hX6 hZ6 hQ6 hD6 hB6 ⊢
  have HZ6 := Lib.hid hZ6
  have HQ6 := Lib.hid hQ6
  have HD6 := Lib.hid hD6
  have HB6 := Lib.hid hB6
  clear ku kf hk6 hZ6 hQ6 hD6 hB6
  have hl1 : xq.length ≤ 8 := hlens.1
  have hl2 : xl.length ≤ 30 := hlens.2.1
  have hl3 : xn.length ≤ 40 := hlens.2.2.1
  have hl4 : xm.length ≤ 40 := hlens.2.2.2
  have hpost : Keeps (Is gZ) W6 (W6.setRow gZ #[.int .i64 x0, .int .i64 x1, .int .i64 x2, .int .i64 x3, .int .i64 n, .int .i64 x5, .string (st xn), .bool xd, .int .i64 xv, .int .i64 xp, .slice Xq mq dq, .slice Xd md dd, .bool yd, .int .i64 yv, .int .i64 yp, .int .i64 x6, .int .i64 x7, .string (st xm)]) → OddPost w (.returned (.agg #[.int .i64 x0, .int .i64 x1, .int .i64 x2, .int .i64 x3, .int .i64 n, .int .i64 x5, .string (st xn), .bool xd, .int .i64 xv, .int .i64 xp, .slice Xq mq dq, .slice Xd md dd, .bool yd, .int .i64 yv, .int .i64 yp, .int .i64 x6, .int .i64 x7, .string (st xm)])) (W6.setRow gZ #[.int .i64 x0, .int .i64 x1, .int .i64 x2, .int .i64 x3, .int .i64 n, .int .i64 x5, .string (st xn), .bool xd, .int .i64 xv, .int .i64 xp, .slice Xq mq dq, .slice Xd md dd, .bool yd, .int .i64 yv, .int .i64 yp, .int .i64 x6, .int .i64 x7, .string (st xm)]) := by
    intro hKz
    refine ⟨⟨x0, x1, x2, x3, n, x5, xn, ⟨xd, xv, xp⟩, xq, xl, ⟨yd, yv, yp⟩, x6, x7, xm⟩, Xq, mq, dq, Xd, md, dd, rfl, ⟨?_, ?_, ?_, ?_, ?_, ?_⟩, below_setRow HB6.out (by omega) _⟩
    · exact OwR.rd (OwR.keeps HQ6.out hKz (fun k hk e => by have e' : k = gZ := e; omega))
    · exact OwB.rd (Own.keeps HD6.out hKz (fun k hk e => by have e' : k = gZ := e; omega))
    · omega
    · omega
    · first | exact Nat.le_trans hl3 (by omega) | exact Nat.le_trans hs3l (by omega)
    · first | exact Nat.le_trans hl4 (by omega) | exact Nat.le_trans hs3l (by omega)
  have HPOST := Lib.hid hpost
  clear hpost
  have hXf := hX6
  have hF := HZ6.out.setRow [.int .i64 x0, .int .i64 x1, .int .i64 x2, .int .i64 x3, .int .i64 n, .int .i64 x5, .string (st xn), .bool xd, .int .i64 xv, .int .i64 xp, .slice Xq mq dq, .slice Xd md dd, .bool yd, .int .i64 yv, .int .i64 yp, .int .i64 x6, .int .i64 x7, .string (st xm)]
  go_wp2_with first
    | (refine wpList_loadBlk rfl (.tmp 9) rfl rfl (by kernel_rfl) tellT_agg hXf ?_; simp only [Act.put, List.setIfInBounds_toArray, List.set_cons_succ, List.set_cons_zero])
    | (refine wpList_storeBlk rfl (.tmp 8) (.tmp 82) rfl rfl [.int .i64 x0, .int .i64 x1, .int .i64 x2, .int .i64 x3, .int .i64 n, .int .i64 x5, .string (st xn), .bool xd, .int .i64 xv, .int .i64 xp, .slice Xq mq dq, .slice Xd md dd, .bool yd, .int .i64 yv, .int .i64 yp, .int .i64 x6, .int .i64 x7, .string (st xm)] rfl rfl (by kernel_rfl) HZ6.out rfl (by simp [Value.oneCell']) ?_)
  have hKz := keeps_setRow W6 (g := gZ) #[.int .i64 x0, .int .i64 x1, .int .i64 x2, .int .i64 x3, .int .i64 n, .int .i64 x5, .string (st xn), .bool xd, .int .i64 xv, .int .i64 xp, .slice Xq mq dq, .slice Xd md dd, .bool yd, .int .i64 yv, .int .i64 yp, .int .i64 x6, .int .i64 x7, .string (st xm)]
  exact bodyPost_ret (v := .agg #[.int .i64 x0, .int .i64 x1, .int .i64 x2, .int .i64 x3, .int .i64 n, .int .i64 x5, .string (st xn), .bool xd, .int .i64 xv, .int .i64 xp, .slice Xq mq dq, .slice Xd md dd, .bool yd, .int .i64 yv, .int .i64 yp, .int .i64 x6, .int .i64 x7, .string (st xm)]) (results_cellBlk Try.results11 rfl hF (by kernel_rfl) tellT_agg) rfl (HPOST.out hKz)

set_option maxRecDepth 100000 in
set_option maxHeartbeats 4000000 in
theorem odd_5 (kind tag code msize iounit count : Int) (name : List UInt8) (qdir : Bool) (qver qpath : Int) (qids : List QidV) (data : List UInt8) (sdir : Bool) (sver spath smode ssize : Int) (sname : List UInt8) (Aq : Option Addr) (nq cq : Nat) (Ad : Option Addr) (nd cd : Nat) (which n : Int) (s : List UInt8) (w : World)
    (hok : TellOk w w.heap.size ⟨kind, tag, code, msize, iounit, count, name, ⟨qdir, qver, qpath⟩, qids, data, ⟨sdir, sver, spath⟩, smode, ssize, sname⟩ Aq nq cq Ad nd cd) (hw : I64 which) (hs : s.length ≤ 9223372036854775807) (hk : up0 which % 14 = 5) :
    Calls Try.prog 11 #[.agg #[.int .i64 kind, .int .i64 tag, .int .i64 code, .int .i64 msize, .int .i64 iounit, .int .i64 count, .string (st name), .bool qdir, .int .i64 qver, .int .i64 qpath, .slice Aq nq cq, .slice Ad nd cd, .bool sdir, .int .i64 sver, .int .i64 spath, .int .i64 smode, .int .i64 ssize, .string (st sname)], .int .i64 which, .int .i64 n, .string (st s)] w (OddPost w) := by
  have hA0 := Blk.new w 29 [.int .i64 kind, .int .i64 tag, .int .i64 code, .int .i64 msize, .int .i64 iounit, .int .i64 count, .string (st name), .bool qdir, .int .i64 qver, .int .i64 qpath, .slice Aq nq cq, .slice Ad nd cd, .bool sdir, .int .i64 sver, .int .i64 spath, .int .i64 smode, .int .i64 ssize, .string (st sname)]
  have hZ0 := Blk.new (w.alloc (.cells #[.int .i64 kind, .int .i64 tag, .int .i64 code, .int .i64 msize, .int .i64 iounit, .int .i64 count, .string (st name), .bool qdir, .int .i64 qver, .int .i64 qpath, .slice Aq nq cq, .slice Ad nd cd, .bool sdir, .int .i64 sver, .int .i64 spath, .int .i64 smode, .int .i64 ssize, .string (st sname)] 29)) 29 [.int .i64 0, .int .i64 0, .int .i64 0, .int .i64 0, .int .i64 0, .int .i64 0, .string ByteArray.empty, .bool false, .int .i64 0, .int .i64 0, .slice none 0 0, .slice none 0 0, .bool false, .int .i64 0, .int .i64 0, .int .i64 0, .int .i64 0, .string ByteArray.empty]
  obtain ⟨W2, hW2⟩ : ∃ x, x = (w.alloc (.cells #[.int .i64 kind, .int .i64 tag, .int .i64 code, .int .i64 msize, .int .i64 iounit, .int .i64 count, .string (st name), .bool qdir, .int .i64 qver, .int .i64 qpath, .slice Aq nq cq, .slice Ad nd cd, .bool sdir, .int .i64 sver, .int .i64 spath, .int .i64 smode, .int .i64 ssize, .string (st sname)] 29)).alloc (.cells #[.int .i64 0, .int .i64 0, .int .i64 0, .int .i64 0, .int .i64 0, .int .i64 0, .string ByteArray.empty, .bool false, .int .i64 0, .int .i64 0, .slice none 0 0, .slice none 0 0, .bool false, .int .i64 0, .int .i64 0, .int .i64 0, .int .i64 0, .string ByteArray.empty] 29) := ⟨_, rfl⟩
  have hA2 : Blk W2 w.heap.size 29 [.int .i64 kind, .int .i64 tag, .int .i64 code, .int .i64 msize, .int .i64 iounit, .int .i64 count, .string (st name), .bool qdir, .int .i64 qver, .int .i64 qpath, .slice Aq nq cq, .slice Ad nd cd, .bool sdir, .int .i64 sver, .int .i64 spath, .int .i64 smode, .int .i64 ssize, .string (st sname)] := by rw [hW2]; exact hA0.alloc _
  have hZ2 : Blk W2 (w.heap.size + 1) 29 [.int .i64 0, .int .i64 0, .int .i64 0, .int .i64 0, .int .i64 0, .int .i64 0, .string ByteArray.empty, .bool false, .int .i64 0, .int .i64 0, .slice none 0 0, .slice none 0 0, .bool false, .int .i64 0, .int .i64 0, .int .i64 0, .int .i64 0, .string ByteArray.empty] := by rw [hW2]; simpa using hZ0
  have hb2 : Below w.heap.size w W2 := by rw [hW2]; exact ((Below.refl _ _).alloc (Nat.le_refl _) _).alloc (by simp) _
  have hW3 : W2 = (w.alloc (.cells #[.int .i64 kind, .int .i64 tag, .int .i64 code, .int .i64 msize, .int .i64 iounit, .int .i64 count, .string (st name), .bool qdir, .int .i64 qver, .int .i64 qpath, .slice Aq nq cq, .slice Ad nd cd, .bool sdir, .int .i64 sver, .int .i64 spath, .int .i64 smode, .int .i64 ssize, .string (st sname)] 29)).alloc (.cells #[.int .i64 0, .int .i64 0, .int .i64 0, .int .i64 0, .int .i64 0, .int .i64 0, .string ⟨#[]⟩, .bool false, .int .i64 0, .int .i64 0, .slice none 0 0, .slice none 0 0, .bool false, .int .i64 0, .int .i64 0, .int .i64 0, .int .i64 0, .string ⟨#[]⟩] 29) := hW2
  obtain ⟨gZ, hgZ⟩ : ∃ x, x = w.heap.size + 1 := ⟨_, rfl⟩
  rw [← hgZ] at hZ2
  have gA_lt : w.heap.size < gZ := by omega
  have gZ_lt : gZ < W2.heap.size := hZ2.lt
  have HZ := Lib.hid hZ2
  have HB2 := Lib.hid hb2
  have GZ := Lib.hid hgZ
  have HOK2 := Lib.hid ((show TellOk W2 W2.heap.size _ Aq nq cq Ad nd cd from { (hok.up hb2) with qids := (hok.qids.below hb2).more hb2.size, data := (hok.data.below hb2).more hb2.size }))
  clear hA0 hZ0 hZ2 hb2 hW2 hgZ hok
  go_enter Try.func11, Try.ntmps11
  go_upto_region 1 with fail
  rw [← hW3, ← GZ.out]
  clear hW3
  go_wp2_with (refine wpList_loadBlk rfl (.tmp 4) rfl rfl (by kernel_rfl) tellT_agg hA2 ?_; simp only [Act.put, List.setIfInBounds_toArray, List.set_cons_succ, List.set_cons_zero])
  refine (goodT_any kind tag code msize iounit count name qdir qver qpath qids data sdir sver spath smode ssize sname Aq nq cq Ad nd cd _ HOK2.out).mono ?_
  rintro e W4 ⟨x, Xq, mq, dq, Xd, md, dd, hx, rfl, hoq, hod, hb4⟩
  have hlens := goodT_lens ⟨kind, tag, code, msize, iounit, count, name, ⟨qdir, qver, qpath⟩, qids, data, ⟨sdir, sver, spath⟩, smode, ssize, sname⟩
  rw [← hx.out] at hlens
  clear hx hA2
  obtain ⟨x0, x1, x2, x3, x4, x5, xn, ⟨xd, xv, xp⟩, xq, xl, ⟨yd, yv, yp⟩, x6, x7, xm⟩ := x
  simp only [tellC]
  have hXZ := Blk.new W4 29 [.int .i64 0, .int .i64 0, .int .i64 0, .int .i64 0, .int .i64 0, .int .i64 0, .string ByteArray.empty, .bool false, .int .i64 0, .int .i64 0, .slice none 0 0, .slice none 0 0, .bool false, .int .i64 0, .int .i64 0, .int .i64 0, .int .i64 0, .string ByteArray.empty]
  have hgX : W2.heap.size ≤ W4.heap.size := hb4.size
  have hW4a : Blk (W4.alloc (.cells #[.int .i64 0, .int .i64 0, .int .i64 0, .int .i64 0, .int .i64 0, .int .i64 0, .string ⟨#[]⟩, .bool false, .int .i64 0, .int .i64 0, .slice none 0 0, .slice none 0 0, .bool false, .int .i64 0, .int .i64 0, .int .i64 0, .int .i64 0, .string ⟨#[]⟩] 29)) W4.heap.size 29 [.int .i64 0, .int .i64 0, .int .i64 0, .int .i64 0, .int .i64 0, .int .i64 0, .string ByteArray.empty, .bool false, .int .i64 0, .int .i64 0, .slice none 0 0, .slice none 0 0, .bool false, .int .i64 0, .int .i64 0, .int .i64 0, .int .i64 0, .string ByteArray.empty] := hXZ
  obtain ⟨gX, hgXe⟩ : ∃ x, x = W4.heap.size := ⟨_, rfl⟩
  have hKs := keeps_setRow (W4.alloc (.cells #[.int .i64 0, .int .i64 0, .int .i64 0, .int .i64 0, .int .i64 0, .int .i64 0, .string ⟨#[]⟩, .bool false, .int .i64 0, .int .i64 0, .slice none 0 0, .slice none 0 0, .bool false, .int .i64 0, .int .i64 0, .int .i64 0, .int .i64 0, .string ⟨#[]⟩] 29)) (g := gX) #[.int .i64 x0, .int .i64 x1, .int .i64 x2, .int .i64 x3, .int .i64 x4, .int .i64 x5, .string (st xn), .bool xd, .int .i64 xv, .int .i64 xp, .slice Xq mq dq, .slice Xd md dd, .bool yd, .int .i64 yv, .int .i64 yp, .int .i64 x6, .int .i64 x7, .string (st xm)]
  have hbal : Below W4.heap.size W4 (W4.alloc (.cells #[.int .i64 0, .int .i64 0, .int .i64 0, .int .i64 0, .int .i64 0, .int .i64 0, .string ⟨#[]⟩, .bool false, .int .i64 0, .int .i64 0, .slice none 0 0, .slice none 0 0, .bool false, .int .i64 0, .int .i64 0, .int .i64 0, .int .i64 0, .string ⟨#[]⟩] 29)) := (Below.refl _ _).alloc (Nat.le_refl _) _
  have hbk : Below W4.heap.size W4 ((W4.alloc (.cells #[.int .i64 0, .int .i64 0, .int .i64 0, .int .i64 0, .int .i64 0, .int .i64 0, .string ⟨#[]⟩, .bool false, .int .i64 0, .int .i64 0, .slice none 0 0, .slice none 0 0, .bool false, .int .i64 0, .int .i64 0, .int .i64 0, .int .i64 0, .string ⟨#[]⟩] 29)).setRow gX #[.int .i64 x0, .int .i64 x1, .int .i64 x2, .int .i64 x3, .int .i64 x4, .int .i64 x5, .string (st xn), .bool xd, .int .i64 xv, .int .i64 xp, .slice Xq mq dq, .slice Xd md dd, .bool yd, .int .i64 yv, .int .i64 yp, .int .i64 x6, .int .i64 x7, .string (st xm)]) := hbal.trans (hKs.is (by omega) (by rw [hgXe]; simp))
  have hX5 : Blk ((W4.alloc (.cells #[.int .i64 0, .int .i64 0, .int .i64 0, .int .i64 0, .int .i64 0, .int .i64 0, .string ⟨#[]⟩, .bool false, .int .i64 0, .int .i64 0, .slice none 0 0, .slice none 0 0, .bool false, .int .i64 0, .int .i64 0, .int .i64 0, .int .i64 0, .string ⟨#[]⟩] 29)).setRow gX #[.int .i64 x0, .int .i64 x1, .int .i64 x2, .int .i64 x3, .int .i64 x4, .int .i64 x5, .string (st xn), .bool xd, .int .i64 xv, .int .i64 xp, .slice Xq mq dq, .slice Xd md dd, .bool yd, .int .i64 yv, .int .i64 yp, .int .i64 x6, .int .i64 x7, .string (st xm)]) gX 29 [.int .i64 x0, .int .i64 x1, .int .i64 x2, .int .i64 x3, .int .i64 x4, .int .i64 x5, .string (st xn), .bool xd, .int .i64 xv, .int .i64 xp, .slice Xq mq dq, .slice Xd md dd, .bool yd, .int .i64 yv, .int .i64 yp, .int .i64 x6, .int .i64 x7, .string (st xm)] := by
    rw [hgXe]; exact hW4a.setRow [.int .i64 x0, .int .i64 x1, .int .i64 x2, .int .i64 x3, .int .i64 x4, .int .i64 x5, .string (st xn), .bool xd, .int .i64 xv, .int .i64 xp, .slice Xq mq dq, .slice Xd md dd, .bool yd, .int .i64 yv, .int .i64 yp, .int .i64 x6, .int .i64 x7, .string (st xm)]
  have hZ5 := (HZ.out.up hb4).up hbk
  have hoq5 := hoq.up hbk
  have hod5 := hod.up hbk
  have hB5 := HB2.out.trans ((Up.trans hb4 hbk).mono (by omega : w.heap.size ≤ W2.heap.size))
  have hX5s : gX < ((W4.alloc (.cells #[.int .i64 0, .int .i64 0, .int .i64 0, .int .i64 0, .int .i64 0, .int .i64 0, .string ⟨#[]⟩, .bool false, .int .i64 0, .int .i64 0, .slice none 0 0, .slice none 0 0, .bool false, .int .i64 0, .int .i64 0, .int .i64 0, .int .i64 0, .string ⟨#[]⟩] 29)).setRow gX #[.int .i64 x0, .int .i64 x1, .int .i64 x2, .int .i64 x3, .int .i64 x4, .int .i64 x5, .string (st xn), .bool xd, .int .i64 xv, .int .i64 xp, .slice Xq mq dq, .slice Xd md dd, .bool yd, .int .i64 yv, .int .i64 yp, .int .i64 x6, .int .i64 x7, .string (st xm)]).heap.size := hX5.lt
  have HX5 := Lib.hid hX5
  have HZ5 := Lib.hid hZ5
  have HQ5 := Lib.hid hoq5
  have HD5 := Lib.hid hod5
  have HB5 := Lib.hid hB5
  have HGX := Lib.hid hgXe
  have gXZ : gX ≠ gZ := by omega
  have gXw : w.heap.size ≤ gX := by omega
  have gWX : W2.heap.size ≤ gX := by omega
  clear hXZ hKs hbal hbk hX5 hZ5 hoq hod hoq5 hod5 hB5 hb4 hgXe
  go_upto_region 2 with (refine wpList_storeBlk rfl (.tmp 9) (.tmp 11) rfl rfl [.int .i64 x0, .int .i64 x1, .int .i64 x2, .int .i64 x3, .int .i64 x4, .int .i64 x5, .string (st xn), .bool xd, .int .i64 xv, .int .i64 xp, .slice Xq mq dq, .slice Xd md dd, .bool yd, .int .i64 yv, .int .i64 yp, .int .i64 x6, .int .i64 x7, .string (st xm)] rfl rfl (by kernel_rfl) hW4a rfl (by simp [Value.oneCell']) ?_)
  rw [← HGX.out]
  generalize (W4.alloc (.cells #[.int .i64 0, .int .i64 0, .int .i64 0, .int .i64 0, .int .i64 0, .int .i64 0, .string ⟨#[]⟩, .bool false, .int .i64 0, .int .i64 0, .slice none 0 0, .slice none 0 0, .bool false, .int .i64 0, .int .i64 0, .int .i64 0, .int .i64 0, .string ⟨#[]⟩] 29)).setRow gX #[.int .i64 x0, .int .i64 x1, .int .i64 x2, .int .i64 x3, .int .i64 x4, .int .i64 x5, .string (st xn), .bool xd, .int .i64 xv, .int .i64 xp, .slice Xq mq dq, .slice Xd md dd, .bool yd, .int .i64 yv, .int .i64 yp, .int .i64 x6, .int .i64 x7, .string (st xm)] = W5 at HX5 HZ5 HQ5 HD5 HB5 hX5s ⊢
  clear hW4a
  have hnq := HQ5.out.len
  have hnd := HD5.out.len
  simp only [List.length_map] at hnq
  go_wp2_with fail
  refine (tAround_det which 14 _ hw.1 hw.2 (by omega) (by omega)).mono ?_
  rintro e w' ⟨rfl, rfl⟩
  rw [show up0 which % (14 : Nat) = 5 from hk]
  have ku := HX5.out.cell 5 _ rfl
  have kf := HX5.out.free 5
  have hX6 := HX5.out.set 5 (.int .i64 n)
  have hZ6 := HZ5.out.other (p := ⟨gX, 5, none⟩) gXZ (.int .i64 n)
  have hk6 : Keeps (Is gX) W5 (W5.setCell ⟨gX, 5, none⟩ (.int .i64 n)) := (Keeps.refl (Is gX) _).setCell (p := ⟨gX, 5, none⟩) (.inl rfl) _
  have hQ6 : OwR (W5.setCell ⟨gX, 5, none⟩ (.int .i64 n)) W2.heap.size 23 3 Xq mq dq (xq.map qidC) := OwR.farG HQ5.out HX5.out (by decide) hk6
  have hD6 : OwB (W5.setCell ⟨gX, 5, none⟩ (.int .i64 n)) W2.heap.size Xd md dd xl := OwB.farG HD5.out HX5.out (by decide) hk6
  have hB6 := HB5.out.trans (hk6.is gXw (Nat.le_of_lt hX5s))
  go_upto_region 30 with fail
  generalize W5.setCell ⟨gX, 5, none⟩ (.int .i64 n) = W6 at hX6 hZ6 hQ6 hD6 hB6 ⊢
  have HZ6 := Lib.hid hZ6
  have HQ6 := Lib.hid hQ6
  have HD6 := Lib.hid hD6
  have HB6 := Lib.hid hB6
  clear ku kf hk6 hZ6 hQ6 hD6 hB6
  have hl1 : xq.length ≤ 8 := hlens.1
  have hl2 : xl.length ≤ 30 := hlens.2.1
  have hl3 : xn.length ≤ 40 := hlens.2.2.1
  have hl4 : xm.length ≤ 40 := hlens.2.2.2
  have hpost : Keeps (Is gZ) W6 (W6.setRow gZ #[.int .i64 x0, .int .i64 x1, .int .i64 x2, .int .i64 x3, .int .i64 x4, .int .i64 n, .string (st xn), .bool xd, .int .i64 xv, .int .i64 xp, .slice Xq mq dq, .slice Xd md dd, .bool yd, .int .i64 yv, .int .i64 yp, .int .i64 x6, .int .i64 x7, .string (st xm)]) → OddPost w (.returned (.agg #[.int .i64 x0, .int .i64 x1, .int .i64 x2, .int .i64 x3, .int .i64 x4, .int .i64 n, .string (st xn), .bool xd, .int .i64 xv, .int .i64 xp, .slice Xq mq dq, .slice Xd md dd, .bool yd, .int .i64 yv, .int .i64 yp, .int .i64 x6, .int .i64 x7, .string (st xm)])) (W6.setRow gZ #[.int .i64 x0, .int .i64 x1, .int .i64 x2, .int .i64 x3, .int .i64 x4, .int .i64 n, .string (st xn), .bool xd, .int .i64 xv, .int .i64 xp, .slice Xq mq dq, .slice Xd md dd, .bool yd, .int .i64 yv, .int .i64 yp, .int .i64 x6, .int .i64 x7, .string (st xm)]) := by
    intro hKz
    refine ⟨⟨x0, x1, x2, x3, x4, n, xn, ⟨xd, xv, xp⟩, xq, xl, ⟨yd, yv, yp⟩, x6, x7, xm⟩, Xq, mq, dq, Xd, md, dd, rfl, ⟨?_, ?_, ?_, ?_, ?_, ?_⟩, below_setRow HB6.out (by omega) _⟩
    · exact OwR.rd (OwR.keeps HQ6.out hKz (fun k hk e => by have e' : k = gZ := e; omega))
    · exact OwB.rd (Own.keeps HD6.out hKz (fun k hk e => by have e' : k = gZ := e; omega))
    · omega
    · omega
    · first | exact Nat.le_trans hl3 (by omega) | exact Nat.le_trans hs3l (by omega)
    · first | exact Nat.le_trans hl4 (by omega) | exact Nat.le_trans hs3l (by omega)
  have HPOST := Lib.hid hpost
  clear hpost
  have hXf := hX6
  have hF := HZ6.out.setRow [.int .i64 x0, .int .i64 x1, .int .i64 x2, .int .i64 x3, .int .i64 x4, .int .i64 n, .string (st xn), .bool xd, .int .i64 xv, .int .i64 xp, .slice Xq mq dq, .slice Xd md dd, .bool yd, .int .i64 yv, .int .i64 yp, .int .i64 x6, .int .i64 x7, .string (st xm)]
  go_wp2_with first
    | (refine wpList_loadBlk rfl (.tmp 9) rfl rfl (by kernel_rfl) tellT_agg hXf ?_; simp only [Act.put, List.setIfInBounds_toArray, List.set_cons_succ, List.set_cons_zero])
    | (refine wpList_storeBlk rfl (.tmp 8) (.tmp 82) rfl rfl [.int .i64 x0, .int .i64 x1, .int .i64 x2, .int .i64 x3, .int .i64 x4, .int .i64 n, .string (st xn), .bool xd, .int .i64 xv, .int .i64 xp, .slice Xq mq dq, .slice Xd md dd, .bool yd, .int .i64 yv, .int .i64 yp, .int .i64 x6, .int .i64 x7, .string (st xm)] rfl rfl (by kernel_rfl) HZ6.out rfl (by simp [Value.oneCell']) ?_)
  have hKz := keeps_setRow W6 (g := gZ) #[.int .i64 x0, .int .i64 x1, .int .i64 x2, .int .i64 x3, .int .i64 x4, .int .i64 n, .string (st xn), .bool xd, .int .i64 xv, .int .i64 xp, .slice Xq mq dq, .slice Xd md dd, .bool yd, .int .i64 yv, .int .i64 yp, .int .i64 x6, .int .i64 x7, .string (st xm)]
  exact bodyPost_ret (v := .agg #[.int .i64 x0, .int .i64 x1, .int .i64 x2, .int .i64 x3, .int .i64 x4, .int .i64 n, .string (st xn), .bool xd, .int .i64 xv, .int .i64 xp, .slice Xq mq dq, .slice Xd md dd, .bool yd, .int .i64 yv, .int .i64 yp, .int .i64 x6, .int .i64 x7, .string (st xm)]) (results_cellBlk Try.results11 rfl hF (by kernel_rfl) tellT_agg) rfl (HPOST.out hKz)

set_option maxRecDepth 100000 in
set_option maxHeartbeats 4000000 in
theorem odd_6 (kind tag code msize iounit count : Int) (name : List UInt8) (qdir : Bool) (qver qpath : Int) (qids : List QidV) (data : List UInt8) (sdir : Bool) (sver spath smode ssize : Int) (sname : List UInt8) (Aq : Option Addr) (nq cq : Nat) (Ad : Option Addr) (nd cd : Nat) (which n : Int) (s : List UInt8) (w : World)
    (hok : TellOk w w.heap.size ⟨kind, tag, code, msize, iounit, count, name, ⟨qdir, qver, qpath⟩, qids, data, ⟨sdir, sver, spath⟩, smode, ssize, sname⟩ Aq nq cq Ad nd cd) (hw : I64 which) (hs : s.length ≤ 9223372036854775807) (hk : up0 which % 14 = 6) :
    Calls Try.prog 11 #[.agg #[.int .i64 kind, .int .i64 tag, .int .i64 code, .int .i64 msize, .int .i64 iounit, .int .i64 count, .string (st name), .bool qdir, .int .i64 qver, .int .i64 qpath, .slice Aq nq cq, .slice Ad nd cd, .bool sdir, .int .i64 sver, .int .i64 spath, .int .i64 smode, .int .i64 ssize, .string (st sname)], .int .i64 which, .int .i64 n, .string (st s)] w (OddPost w) := by
  have hA0 := Blk.new w 29 [.int .i64 kind, .int .i64 tag, .int .i64 code, .int .i64 msize, .int .i64 iounit, .int .i64 count, .string (st name), .bool qdir, .int .i64 qver, .int .i64 qpath, .slice Aq nq cq, .slice Ad nd cd, .bool sdir, .int .i64 sver, .int .i64 spath, .int .i64 smode, .int .i64 ssize, .string (st sname)]
  have hZ0 := Blk.new (w.alloc (.cells #[.int .i64 kind, .int .i64 tag, .int .i64 code, .int .i64 msize, .int .i64 iounit, .int .i64 count, .string (st name), .bool qdir, .int .i64 qver, .int .i64 qpath, .slice Aq nq cq, .slice Ad nd cd, .bool sdir, .int .i64 sver, .int .i64 spath, .int .i64 smode, .int .i64 ssize, .string (st sname)] 29)) 29 [.int .i64 0, .int .i64 0, .int .i64 0, .int .i64 0, .int .i64 0, .int .i64 0, .string ByteArray.empty, .bool false, .int .i64 0, .int .i64 0, .slice none 0 0, .slice none 0 0, .bool false, .int .i64 0, .int .i64 0, .int .i64 0, .int .i64 0, .string ByteArray.empty]
  obtain ⟨W2, hW2⟩ : ∃ x, x = (w.alloc (.cells #[.int .i64 kind, .int .i64 tag, .int .i64 code, .int .i64 msize, .int .i64 iounit, .int .i64 count, .string (st name), .bool qdir, .int .i64 qver, .int .i64 qpath, .slice Aq nq cq, .slice Ad nd cd, .bool sdir, .int .i64 sver, .int .i64 spath, .int .i64 smode, .int .i64 ssize, .string (st sname)] 29)).alloc (.cells #[.int .i64 0, .int .i64 0, .int .i64 0, .int .i64 0, .int .i64 0, .int .i64 0, .string ByteArray.empty, .bool false, .int .i64 0, .int .i64 0, .slice none 0 0, .slice none 0 0, .bool false, .int .i64 0, .int .i64 0, .int .i64 0, .int .i64 0, .string ByteArray.empty] 29) := ⟨_, rfl⟩
  have hA2 : Blk W2 w.heap.size 29 [.int .i64 kind, .int .i64 tag, .int .i64 code, .int .i64 msize, .int .i64 iounit, .int .i64 count, .string (st name), .bool qdir, .int .i64 qver, .int .i64 qpath, .slice Aq nq cq, .slice Ad nd cd, .bool sdir, .int .i64 sver, .int .i64 spath, .int .i64 smode, .int .i64 ssize, .string (st sname)] := by rw [hW2]; exact hA0.alloc _
  have hZ2 : Blk W2 (w.heap.size + 1) 29 [.int .i64 0, .int .i64 0, .int .i64 0, .int .i64 0, .int .i64 0, .int .i64 0, .string ByteArray.empty, .bool false, .int .i64 0, .int .i64 0, .slice none 0 0, .slice none 0 0, .bool false, .int .i64 0, .int .i64 0, .int .i64 0, .int .i64 0, .string ByteArray.empty] := by rw [hW2]; simpa using hZ0
  have hb2 : Below w.heap.size w W2 := by rw [hW2]; exact ((Below.refl _ _).alloc (Nat.le_refl _) _).alloc (by simp) _
  have hW3 : W2 = (w.alloc (.cells #[.int .i64 kind, .int .i64 tag, .int .i64 code, .int .i64 msize, .int .i64 iounit, .int .i64 count, .string (st name), .bool qdir, .int .i64 qver, .int .i64 qpath, .slice Aq nq cq, .slice Ad nd cd, .bool sdir, .int .i64 sver, .int .i64 spath, .int .i64 smode, .int .i64 ssize, .string (st sname)] 29)).alloc (.cells #[.int .i64 0, .int .i64 0, .int .i64 0, .int .i64 0, .int .i64 0, .int .i64 0, .string ⟨#[]⟩, .bool false, .int .i64 0, .int .i64 0, .slice none 0 0, .slice none 0 0, .bool false, .int .i64 0, .int .i64 0, .int .i64 0, .int .i64 0, .string ⟨#[]⟩] 29) := hW2
  obtain ⟨gZ, hgZ⟩ : ∃ x, x = w.heap.size + 1 := ⟨_, rfl⟩
  rw [← hgZ] at hZ2
  have gA_lt : w.heap.size < gZ := by omega
  have gZ_lt : gZ < W2.heap.size := hZ2.lt
  have HZ := Lib.hid hZ2
  have HB2 := Lib.hid hb2
  have GZ := Lib.hid hgZ
  have HOK2 := Lib.hid ((show TellOk W2 W2.heap.size _ Aq nq cq Ad nd cd from { (hok.up hb2) with qids := (hok.qids.below hb2).more hb2.size, data := (hok.data.below hb2).more hb2.size }))
  clear hA0 hZ0 hZ2 hb2 hW2 hgZ hok
  go_enter Try.func11, Try.ntmps11
  go_upto_region 1 with fail
  rw [← hW3, ← GZ.out]
  clear hW3
  go_wp2_with (refine wpList_loadBlk rfl (.tmp 4) rfl rfl (by kernel_rfl) tellT_agg hA2 ?_; simp only [Act.put, List.setIfInBounds_toArray, List.set_cons_succ, List.set_cons_zero])
  refine (goodT_any kind tag code msize iounit count name qdir qver qpath qids data sdir sver spath smode ssize sname Aq nq cq Ad nd cd _ HOK2.out).mono ?_
  rintro e W4 ⟨x, Xq, mq, dq, Xd, md, dd, hx, rfl, hoq, hod, hb4⟩
  have hlens := goodT_lens ⟨kind, tag, code, msize, iounit, count, name, ⟨qdir, qver, qpath⟩, qids, data, ⟨sdir, sver, spath⟩, smode, ssize, sname⟩
  rw [← hx.out] at hlens
  clear hx hA2
  obtain ⟨x0, x1, x2, x3, x4, x5, xn, ⟨xd, xv, xp⟩, xq, xl, ⟨yd, yv, yp⟩, x6, x7, xm⟩ := x
  simp only [tellC]
  have hXZ := Blk.new W4 29 [.int .i64 0, .int .i64 0, .int .i64 0, .int .i64 0, .int .i64 0, .int .i64 0, .string ByteArray.empty, .bool false, .int .i64 0, .int .i64 0, .slice none 0 0, .slice none 0 0, .bool false, .int .i64 0, .int .i64 0, .int .i64 0, .int .i64 0, .string ByteArray.empty]
  have hgX : W2.heap.size ≤ W4.heap.size := hb4.size
  have hW4a : Blk (W4.alloc (.cells #[.int .i64 0, .int .i64 0, .int .i64 0, .int .i64 0, .int .i64 0, .int .i64 0, .string ⟨#[]⟩, .bool false, .int .i64 0, .int .i64 0, .slice none 0 0, .slice none 0 0, .bool false, .int .i64 0, .int .i64 0, .int .i64 0, .int .i64 0, .string ⟨#[]⟩] 29)) W4.heap.size 29 [.int .i64 0, .int .i64 0, .int .i64 0, .int .i64 0, .int .i64 0, .int .i64 0, .string ByteArray.empty, .bool false, .int .i64 0, .int .i64 0, .slice none 0 0, .slice none 0 0, .bool false, .int .i64 0, .int .i64 0, .int .i64 0, .int .i64 0, .string ByteArray.empty] := hXZ
  obtain ⟨gX, hgXe⟩ : ∃ x, x = W4.heap.size := ⟨_, rfl⟩
  have hKs := keeps_setRow (W4.alloc (.cells #[.int .i64 0, .int .i64 0, .int .i64 0, .int .i64 0, .int .i64 0, .int .i64 0, .string ⟨#[]⟩, .bool false, .int .i64 0, .int .i64 0, .slice none 0 0, .slice none 0 0, .bool false, .int .i64 0, .int .i64 0, .int .i64 0, .int .i64 0, .string ⟨#[]⟩] 29)) (g := gX) #[.int .i64 x0, .int .i64 x1, .int .i64 x2, .int .i64 x3, .int .i64 x4, .int .i64 x5, .string (st xn), .bool xd, .int .i64 xv, .int .i64 xp, .slice Xq mq dq, .slice Xd md dd, .bool yd, .int .i64 yv, .int .i64 yp, .int .i64 x6, .int .i64 x7, .string (st xm)]
  have hbal : Below W4.heap.size W4 (W4.alloc (.cells #[.int .i64 0, .int .i64 0, .int .i64 0, .int .i64 0, .int .i64 0, .int .i64 0, .string ⟨#[]⟩, .bool false, .int .i64 0, .int .i64 0, .slice none 0 0, .slice none 0 0, .bool false, .int .i64 0, .int .i64 0, .int .i64 0, .int .i64 0, .string ⟨#[]⟩] 29)) := (Below.refl _ _).alloc (Nat.le_refl _) _
  have hbk : Below W4.heap.size W4 ((W4.alloc (.cells #[.int .i64 0, .int .i64 0, .int .i64 0, .int .i64 0, .int .i64 0, .int .i64 0, .string ⟨#[]⟩, .bool false, .int .i64 0, .int .i64 0, .slice none 0 0, .slice none 0 0, .bool false, .int .i64 0, .int .i64 0, .int .i64 0, .int .i64 0, .string ⟨#[]⟩] 29)).setRow gX #[.int .i64 x0, .int .i64 x1, .int .i64 x2, .int .i64 x3, .int .i64 x4, .int .i64 x5, .string (st xn), .bool xd, .int .i64 xv, .int .i64 xp, .slice Xq mq dq, .slice Xd md dd, .bool yd, .int .i64 yv, .int .i64 yp, .int .i64 x6, .int .i64 x7, .string (st xm)]) := hbal.trans (hKs.is (by omega) (by rw [hgXe]; simp))
  have hX5 : Blk ((W4.alloc (.cells #[.int .i64 0, .int .i64 0, .int .i64 0, .int .i64 0, .int .i64 0, .int .i64 0, .string ⟨#[]⟩, .bool false, .int .i64 0, .int .i64 0, .slice none 0 0, .slice none 0 0, .bool false, .int .i64 0, .int .i64 0, .int .i64 0, .int .i64 0, .string ⟨#[]⟩] 29)).setRow gX #[.int .i64 x0, .int .i64 x1, .int .i64 x2, .int .i64 x3, .int .i64 x4, .int .i64 x5, .string (st xn), .bool xd, .int .i64 xv, .int .i64 xp, .slice Xq mq dq, .slice Xd md dd, .bool yd, .int .i64 yv, .int .i64 yp, .int .i64 x6, .int .i64 x7, .string (st xm)]) gX 29 [.int .i64 x0, .int .i64 x1, .int .i64 x2, .int .i64 x3, .int .i64 x4, .int .i64 x5, .string (st xn), .bool xd, .int .i64 xv, .int .i64 xp, .slice Xq mq dq, .slice Xd md dd, .bool yd, .int .i64 yv, .int .i64 yp, .int .i64 x6, .int .i64 x7, .string (st xm)] := by
    rw [hgXe]; exact hW4a.setRow [.int .i64 x0, .int .i64 x1, .int .i64 x2, .int .i64 x3, .int .i64 x4, .int .i64 x5, .string (st xn), .bool xd, .int .i64 xv, .int .i64 xp, .slice Xq mq dq, .slice Xd md dd, .bool yd, .int .i64 yv, .int .i64 yp, .int .i64 x6, .int .i64 x7, .string (st xm)]
  have hZ5 := (HZ.out.up hb4).up hbk
  have hoq5 := hoq.up hbk
  have hod5 := hod.up hbk
  have hB5 := HB2.out.trans ((Up.trans hb4 hbk).mono (by omega : w.heap.size ≤ W2.heap.size))
  have hX5s : gX < ((W4.alloc (.cells #[.int .i64 0, .int .i64 0, .int .i64 0, .int .i64 0, .int .i64 0, .int .i64 0, .string ⟨#[]⟩, .bool false, .int .i64 0, .int .i64 0, .slice none 0 0, .slice none 0 0, .bool false, .int .i64 0, .int .i64 0, .int .i64 0, .int .i64 0, .string ⟨#[]⟩] 29)).setRow gX #[.int .i64 x0, .int .i64 x1, .int .i64 x2, .int .i64 x3, .int .i64 x4, .int .i64 x5, .string (st xn), .bool xd, .int .i64 xv, .int .i64 xp, .slice Xq mq dq, .slice Xd md dd, .bool yd, .int .i64 yv, .int .i64 yp, .int .i64 x6, .int .i64 x7, .string (st xm)]).heap.size := hX5.lt
  have HX5 := Lib.hid hX5
  have HZ5 := Lib.hid hZ5
  have HQ5 := Lib.hid hoq5
  have HD5 := Lib.hid hod5
  have HB5 := Lib.hid hB5
  have HGX := Lib.hid hgXe
  have gXZ : gX ≠ gZ := by omega
  have gXw : w.heap.size ≤ gX := by omega
  have gWX : W2.heap.size ≤ gX := by omega
  clear hXZ hKs hbal hbk hX5 hZ5 hoq hod hoq5 hod5 hB5 hb4 hgXe
  go_upto_region 2 with (refine wpList_storeBlk rfl (.tmp 9) (.tmp 11) rfl rfl [.int .i64 x0, .int .i64 x1, .int .i64 x2, .int .i64 x3, .int .i64 x4, .int .i64 x5, .string (st xn), .bool xd, .int .i64 xv, .int .i64 xp, .slice Xq mq dq, .slice Xd md dd, .bool yd, .int .i64 yv, .int .i64 yp, .int .i64 x6, .int .i64 x7, .string (st xm)] rfl rfl (by kernel_rfl) hW4a rfl (by simp [Value.oneCell']) ?_)
  rw [← HGX.out]
  generalize (W4.alloc (.cells #[.int .i64 0, .int .i64 0, .int .i64 0, .int .i64 0, .int .i64 0, .int .i64 0, .string ⟨#[]⟩, .bool false, .int .i64 0, .int .i64 0, .slice none 0 0, .slice none 0 0, .bool false, .int .i64 0, .int .i64 0, .int .i64 0, .int .i64 0, .string ⟨#[]⟩] 29)).setRow gX #[.int .i64 x0, .int .i64 x1, .int .i64 x2, .int .i64 x3, .int .i64 x4, .int .i64 x5, .string (st xn), .bool xd, .int .i64 xv, .int .i64 xp, .slice Xq mq dq, .slice Xd md dd, .bool yd, .int .i64 yv, .int .i64 yp, .int .i64 x6, .int .i64 x7, .string (st xm)] = W5 at HX5 HZ5 HQ5 HD5 HB5 hX5s ⊢
  clear hW4a
  have hnq := HQ5.out.len
  have hnd := HD5.out.len
  simp only [List.length_map] at hnq
  go_wp2_with fail
  refine (tAround_det which 14 _ hw.1 hw.2 (by omega) (by omega)).mono ?_
  rintro e w' ⟨rfl, rfl⟩
  rw [show up0 which % (14 : Nat) = 6 from hk]
  obtain ⟨s3, hs3⟩ : ∃ v, Hid (v = s.take 300) := ⟨_, Lib.hid rfl⟩
  have hs3l : s3.length ≤ 300 := by rw [hs3.out]; simp; omega
  go_wp2_with fail
  refine (show Calls Try.prog 29 #[.string (st s), .int .i64 300] W5 fun e w' => e = .returned (.string (st s3)) ∧ W5 = w' by rw [hs3.out]; exact tShort_any s 300 _ hs (by omega)).mono ?_
  rintro e w' ⟨rfl, rfl⟩
  have ku := HX5.out.cell 6 _ rfl
  have kf := HX5.out.free 6
  have hX6 := HX5.out.set 6 (.string (st s3))
  have hZ6 := HZ5.out.other (p := ⟨gX, 6, none⟩) gXZ (.string (st s3))
  have hk6 : Keeps (Is gX) W5 (W5.setCell ⟨gX, 6, none⟩ (.string (st s3))) := (Keeps.refl (Is gX) _).setCell (p := ⟨gX, 6, none⟩) (.inl rfl) _
  have hQ6 : OwR (W5.setCell ⟨gX, 6, none⟩ (.string (st s3))) W2.heap.size 23 3 Xq mq dq (xq.map qidC) := OwR.farG HQ5.out HX5.out (by decide) hk6
  have hD6 : OwB (W5.setCell ⟨gX, 6, none⟩ (.string (st s3))) W2.heap.size Xd md dd xl := OwB.farG HD5.out HX5.out (by decide) hk6
  have hB6 := HB5.out.trans (hk6.is gXw (Nat.le_of_lt hX5s))
  go_upto_region 30 with fail
  generalize W5.setCell ⟨gX, 6, none⟩ (.string (st s3)) = W6 at hX6 hZ6 hQ6 hD6 hB6 ⊢
  have HZ6 := Lib.hid hZ6
  have HQ6 := Lib.hid hQ6
  have HD6 := Lib.hid hD6
  have HB6 := Lib.hid hB6
  clear ku kf hk6 hZ6 hQ6 hD6 hB6
  have hl1 : xq.length ≤ 8 := hlens.1
  have hl2 : xl.length ≤ 30 := hlens.2.1
  have hl3 : xn.length ≤ 40 := hlens.2.2.1
  have hl4 : xm.length ≤ 40 := hlens.2.2.2
  have hpost : Keeps (Is gZ) W6 (W6.setRow gZ #[.int .i64 x0, .int .i64 x1, .int .i64 x2, .int .i64 x3, .int .i64 x4, .int .i64 x5, .string (st s3), .bool xd, .int .i64 xv, .int .i64 xp, .slice Xq mq dq, .slice Xd md dd, .bool yd, .int .i64 yv, .int .i64 yp, .int .i64 x6, .int .i64 x7, .string (st xm)]) → OddPost w (.returned (.agg #[.int .i64 x0, .int .i64 x1, .int .i64 x2, .int .i64 x3, .int .i64 x4, .int .i64 x5, .string (st s3), .bool xd, .int .i64 xv, .int .i64 xp, .slice Xq mq dq, .slice Xd md dd, .bool yd, .int .i64 yv, .int .i64 yp, .int .i64 x6, .int .i64 x7, .string (st xm)])) (W6.setRow gZ #[.int .i64 x0, .int .i64 x1, .int .i64 x2, .int .i64 x3, .int .i64 x4, .int .i64 x5, .string (st s3), .bool xd, .int .i64 xv, .int .i64 xp, .slice Xq mq dq, .slice Xd md dd, .bool yd, .int .i64 yv, .int .i64 yp, .int .i64 x6, .int .i64 x7, .string (st xm)]) := by
    intro hKz
    refine ⟨⟨x0, x1, x2, x3, x4, x5, s3, ⟨xd, xv, xp⟩, xq, xl, ⟨yd, yv, yp⟩, x6, x7, xm⟩, Xq, mq, dq, Xd, md, dd, rfl, ⟨?_, ?_, ?_, ?_, ?_, ?_⟩, below_setRow HB6.out (by omega) _⟩
    · exact OwR.rd (OwR.keeps HQ6.out hKz (fun k hk e => by have e' : k = gZ := e; omega))
    · exact OwB.rd (Own.keeps HD6.out hKz (fun k hk e => by have e' : k = gZ := e; omega))
    · omega
    · omega
    · first | exact Nat.le_trans hl3 (by omega) | exact Nat.le_trans hs3l (by omega)
    · first | exact Nat.le_trans hl4 (by omega) | exact Nat.le_trans hs3l (by omega)
  have HPOST := Lib.hid hpost
  clear hpost
  have hXf := hX6
  have hF := HZ6.out.setRow [.int .i64 x0, .int .i64 x1, .int .i64 x2, .int .i64 x3, .int .i64 x4, .int .i64 x5, .string (st s3), .bool xd, .int .i64 xv, .int .i64 xp, .slice Xq mq dq, .slice Xd md dd, .bool yd, .int .i64 yv, .int .i64 yp, .int .i64 x6, .int .i64 x7, .string (st xm)]
  go_wp2_with first
    | (refine wpList_loadBlk rfl (.tmp 9) rfl rfl (by kernel_rfl) tellT_agg hXf ?_; simp only [Act.put, List.setIfInBounds_toArray, List.set_cons_succ, List.set_cons_zero])
    | (refine wpList_storeBlk rfl (.tmp 8) (.tmp 82) rfl rfl [.int .i64 x0, .int .i64 x1, .int .i64 x2, .int .i64 x3, .int .i64 x4, .int .i64 x5, .string (st s3), .bool xd, .int .i64 xv, .int .i64 xp, .slice Xq mq dq, .slice Xd md dd, .bool yd, .int .i64 yv, .int .i64 yp, .int .i64 x6, .int .i64 x7, .string (st xm)] rfl rfl (by kernel_rfl) HZ6.out rfl (by simp [Value.oneCell']) ?_)
  have hKz := keeps_setRow W6 (g := gZ) #[.int .i64 x0, .int .i64 x1, .int .i64 x2, .int .i64 x3, .int .i64 x4, .int .i64 x5, .string (st s3), .bool xd, .int .i64 xv, .int .i64 xp, .slice Xq mq dq, .slice Xd md dd, .bool yd, .int .i64 yv, .int .i64 yp, .int .i64 x6, .int .i64 x7, .string (st xm)]
  exact bodyPost_ret (v := .agg #[.int .i64 x0, .int .i64 x1, .int .i64 x2, .int .i64 x3, .int .i64 x4, .int .i64 x5, .string (st s3), .bool xd, .int .i64 xv, .int .i64 xp, .slice Xq mq dq, .slice Xd md dd, .bool yd, .int .i64 yv, .int .i64 yp, .int .i64 x6, .int .i64 x7, .string (st xm)]) (results_cellBlk Try.results11 rfl hF (by kernel_rfl) tellT_agg) rfl (HPOST.out hKz)

set_option maxRecDepth 100000 in
set_option maxHeartbeats 4000000 in
theorem odd_7 (kind tag code msize iounit count : Int) (name : List UInt8) (qdir : Bool) (qver qpath : Int) (qids : List QidV) (data : List UInt8) (sdir : Bool) (sver spath smode ssize : Int) (sname : List UInt8) (Aq : Option Addr) (nq cq : Nat) (Ad : Option Addr) (nd cd : Nat) (which n : Int) (s : List UInt8) (w : World)
    (hok : TellOk w w.heap.size ⟨kind, tag, code, msize, iounit, count, name, ⟨qdir, qver, qpath⟩, qids, data, ⟨sdir, sver, spath⟩, smode, ssize, sname⟩ Aq nq cq Ad nd cd) (hw : I64 which) (hs : s.length ≤ 9223372036854775807) (hk : up0 which % 14 = 7) :
    Calls Try.prog 11 #[.agg #[.int .i64 kind, .int .i64 tag, .int .i64 code, .int .i64 msize, .int .i64 iounit, .int .i64 count, .string (st name), .bool qdir, .int .i64 qver, .int .i64 qpath, .slice Aq nq cq, .slice Ad nd cd, .bool sdir, .int .i64 sver, .int .i64 spath, .int .i64 smode, .int .i64 ssize, .string (st sname)], .int .i64 which, .int .i64 n, .string (st s)] w (OddPost w) := by
  have hA0 := Blk.new w 29 [.int .i64 kind, .int .i64 tag, .int .i64 code, .int .i64 msize, .int .i64 iounit, .int .i64 count, .string (st name), .bool qdir, .int .i64 qver, .int .i64 qpath, .slice Aq nq cq, .slice Ad nd cd, .bool sdir, .int .i64 sver, .int .i64 spath, .int .i64 smode, .int .i64 ssize, .string (st sname)]
  have hZ0 := Blk.new (w.alloc (.cells #[.int .i64 kind, .int .i64 tag, .int .i64 code, .int .i64 msize, .int .i64 iounit, .int .i64 count, .string (st name), .bool qdir, .int .i64 qver, .int .i64 qpath, .slice Aq nq cq, .slice Ad nd cd, .bool sdir, .int .i64 sver, .int .i64 spath, .int .i64 smode, .int .i64 ssize, .string (st sname)] 29)) 29 [.int .i64 0, .int .i64 0, .int .i64 0, .int .i64 0, .int .i64 0, .int .i64 0, .string ByteArray.empty, .bool false, .int .i64 0, .int .i64 0, .slice none 0 0, .slice none 0 0, .bool false, .int .i64 0, .int .i64 0, .int .i64 0, .int .i64 0, .string ByteArray.empty]
  obtain ⟨W2, hW2⟩ : ∃ x, x = (w.alloc (.cells #[.int .i64 kind, .int .i64 tag, .int .i64 code, .int .i64 msize, .int .i64 iounit, .int .i64 count, .string (st name), .bool qdir, .int .i64 qver, .int .i64 qpath, .slice Aq nq cq, .slice Ad nd cd, .bool sdir, .int .i64 sver, .int .i64 spath, .int .i64 smode, .int .i64 ssize, .string (st sname)] 29)).alloc (.cells #[.int .i64 0, .int .i64 0, .int .i64 0, .int .i64 0, .int .i64 0, .int .i64 0, .string ByteArray.empty, .bool false, .int .i64 0, .int .i64 0, .slice none 0 0, .slice none 0 0, .bool false, .int .i64 0, .int .i64 0, .int .i64 0, .int .i64 0, .string ByteArray.empty] 29) := ⟨_, rfl⟩
  have hA2 : Blk W2 w.heap.size 29 [.int .i64 kind, .int .i64 tag, .int .i64 code, .int .i64 msize, .int .i64 iounit, .int .i64 count, .string (st name), .bool qdir, .int .i64 qver, .int .i64 qpath, .slice Aq nq cq, .slice Ad nd cd, .bool sdir, .int .i64 sver, .int .i64 spath, .int .i64 smode, .int .i64 ssize, .string (st sname)] := by rw [hW2]; exact hA0.alloc _
  have hZ2 : Blk W2 (w.heap.size + 1) 29 [.int .i64 0, .int .i64 0, .int .i64 0, .int .i64 0, .int .i64 0, .int .i64 0, .string ByteArray.empty, .bool false, .int .i64 0, .int .i64 0, .slice none 0 0, .slice none 0 0, .bool false, .int .i64 0, .int .i64 0, .int .i64 0, .int .i64 0, .string ByteArray.empty] := by rw [hW2]; simpa using hZ0
  have hb2 : Below w.heap.size w W2 := by rw [hW2]; exact ((Below.refl _ _).alloc (Nat.le_refl _) _).alloc (by simp) _
  have hW3 : W2 = (w.alloc (.cells #[.int .i64 kind, .int .i64 tag, .int .i64 code, .int .i64 msize, .int .i64 iounit, .int .i64 count, .string (st name), .bool qdir, .int .i64 qver, .int .i64 qpath, .slice Aq nq cq, .slice Ad nd cd, .bool sdir, .int .i64 sver, .int .i64 spath, .int .i64 smode, .int .i64 ssize, .string (st sname)] 29)).alloc (.cells #[.int .i64 0, .int .i64 0, .int .i64 0, .int .i64 0, .int .i64 0, .int .i64 0, .string ⟨#[]⟩, .bool false, .int .i64 0, .int .i64 0, .slice none 0 0, .slice none 0 0, .bool false, .int .i64 0, .int .i64 0, .int .i64 0, .int .i64 0, .string ⟨#[]⟩] 29) := hW2
  obtain ⟨gZ, hgZ⟩ : ∃ x, x = w.heap.size + 1 := ⟨_, rfl⟩
  rw [← hgZ] at hZ2
  have gA_lt : w.heap.size < gZ := by omega
  have gZ_lt : gZ < W2.heap.size := hZ2.lt
  have HZ := Lib.hid hZ2
  have HB2 := Lib.hid hb2
  have GZ := Lib.hid hgZ
  have HOK2 := Lib.hid ((show TellOk W2 W2.heap.size _ Aq nq cq Ad nd cd from { (hok.up hb2) with qids := (hok.qids.below hb2).more hb2.size, data := (hok.data.below hb2).more hb2.size }))
  clear hA0 hZ0 hZ2 hb2 hW2 hgZ hok
  go_enter Try.func11, Try.ntmps11
  go_upto_region 1 with fail
  rw [← hW3, ← GZ.out]
  clear hW3
  go_wp2_with (refine wpList_loadBlk rfl (.tmp 4) rfl rfl (by kernel_rfl) tellT_agg hA2 ?_; simp only [Act.put, List.setIfInBounds_toArray, List.set_cons_succ, List.set_cons_zero])
  refine (goodT_any kind tag code msize iounit count name qdir qver qpath qids data sdir sver spath smode ssize sname Aq nq cq Ad nd cd _ HOK2.out).mono ?_
  rintro e W4 ⟨x, Xq, mq, dq, Xd, md, dd, hx, rfl, hoq, hod, hb4⟩
  have hlens := goodT_lens ⟨kind, tag, code, msize, iounit, count, name, ⟨qdir, qver, qpath⟩, qids, data, ⟨sdir, sver, spath⟩, smode, ssize, sname⟩
  rw [← hx.out] at hlens
  clear hx hA2
  obtain ⟨x0, x1, x2, x3, x4, x5, xn, ⟨xd, xv, xp⟩, xq, xl, ⟨yd, yv, yp⟩, x6, x7, xm⟩ := x
  simp only [tellC]
  have hXZ := Blk.new W4 29 [.int .i64 0, .int .i64 0, .int .i64 0, .int .i64 0, .int .i64 0, .int .i64 0, .string ByteArray.empty, .bool false, .int .i64 0, .int .i64 0, .slice none 0 0, .slice none 0 0, .bool false, .int .i64 0, .int .i64 0, .int .i64 0, .int .i64 0, .string ByteArray.empty]
  have hgX : W2.heap.size ≤ W4.heap.size := hb4.size
  have hW4a : Blk (W4.alloc (.cells #[.int .i64 0, .int .i64 0, .int .i64 0, .int .i64 0, .int .i64 0, .int .i64 0, .string ⟨#[]⟩, .bool false, .int .i64 0, .int .i64 0, .slice none 0 0, .slice none 0 0, .bool false, .int .i64 0, .int .i64 0, .int .i64 0, .int .i64 0, .string ⟨#[]⟩] 29)) W4.heap.size 29 [.int .i64 0, .int .i64 0, .int .i64 0, .int .i64 0, .int .i64 0, .int .i64 0, .string ByteArray.empty, .bool false, .int .i64 0, .int .i64 0, .slice none 0 0, .slice none 0 0, .bool false, .int .i64 0, .int .i64 0, .int .i64 0, .int .i64 0, .string ByteArray.empty] := hXZ
  obtain ⟨gX, hgXe⟩ : ∃ x, x = W4.heap.size := ⟨_, rfl⟩
  have hKs := keeps_setRow (W4.alloc (.cells #[.int .i64 0, .int .i64 0, .int .i64 0, .int .i64 0, .int .i64 0, .int .i64 0, .string ⟨#[]⟩, .bool false, .int .i64 0, .int .i64 0, .slice none 0 0, .slice none 0 0, .bool false, .int .i64 0, .int .i64 0, .int .i64 0, .int .i64 0, .string ⟨#[]⟩] 29)) (g := gX) #[.int .i64 x0, .int .i64 x1, .int .i64 x2, .int .i64 x3, .int .i64 x4, .int .i64 x5, .string (st xn), .bool xd, .int .i64 xv, .int .i64 xp, .slice Xq mq dq, .slice Xd md dd, .bool yd, .int .i64 yv, .int .i64 yp, .int .i64 x6, .int .i64 x7, .string (st xm)]
  have hbal : Below W4.heap.size W4 (W4.alloc (.cells #[.int .i64 0, .int .i64 0, .int .i64 0, .int .i64 0, .int .i64 0, .int .i64 0, .string ⟨#[]⟩, .bool false, .int .i64 0, .int .i64 0, .slice none 0 0, .slice none 0 0, .bool false, .int .i64 0, .int .i64 0, .int .i64 0, .int .i64 0, .string ⟨#[]⟩] 29)) := (Below.refl _ _).alloc (Nat.le_refl _) _
  have hbk : Below W4.heap.size W4 ((W4.alloc (.cells #[.int .i64 0, .int .i64 0, .int .i64 0, .int .i64 0, .int .i64 0, .int .i64 0, .string ⟨#[]⟩, .bool false, .int .i64 0, .int .i64 0, .slice none 0 0, .slice none 0 0, .bool false, .int .i64 0, .int .i64 0, .int .i64 0, .int .i64 0, .string ⟨#[]⟩] 29)).setRow gX #[.int .i64 x0, .int .i64 x1, .int .i64 x2, .int .i64 x3, .int .i64 x4, .int .i64 x5, .string (st xn), .bool xd, .int .i64 xv, .int .i64 xp, .slice Xq mq dq, .slice Xd md dd, .bool yd, .int .i64 yv, .int .i64 yp, .int .i64 x6, .int .i64 x7, .string (st xm)]) := hbal.trans (hKs.is (by omega) (by rw [hgXe]; simp))
  have hX5 : Blk ((W4.alloc (.cells #[.int .i64 0, .int .i64 0, .int .i64 0, .int .i64 0, .int .i64 0, .int .i64 0, .string ⟨#[]⟩, .bool false, .int .i64 0, .int .i64 0, .slice none 0 0, .slice none 0 0, .bool false, .int .i64 0, .int .i64 0, .int .i64 0, .int .i64 0, .string ⟨#[]⟩] 29)).setRow gX #[.int .i64 x0, .int .i64 x1, .int .i64 x2, .int .i64 x3, .int .i64 x4, .int .i64 x5, .string (st xn), .bool xd, .int .i64 xv, .int .i64 xp, .slice Xq mq dq, .slice Xd md dd, .bool yd, .int .i64 yv, .int .i64 yp, .int .i64 x6, .int .i64 x7, .string (st xm)]) gX 29 [.int .i64 x0, .int .i64 x1, .int .i64 x2, .int .i64 x3, .int .i64 x4, .int .i64 x5, .string (st xn), .bool xd, .int .i64 xv, .int .i64 xp, .slice Xq mq dq, .slice Xd md dd, .bool yd, .int .i64 yv, .int .i64 yp, .int .i64 x6, .int .i64 x7, .string (st xm)] := by
    rw [hgXe]; exact hW4a.setRow [.int .i64 x0, .int .i64 x1, .int .i64 x2, .int .i64 x3, .int .i64 x4, .int .i64 x5, .string (st xn), .bool xd, .int .i64 xv, .int .i64 xp, .slice Xq mq dq, .slice Xd md dd, .bool yd, .int .i64 yv, .int .i64 yp, .int .i64 x6, .int .i64 x7, .string (st xm)]
  have hZ5 := (HZ.out.up hb4).up hbk
  have hoq5 := hoq.up hbk
  have hod5 := hod.up hbk
  have hB5 := HB2.out.trans ((Up.trans hb4 hbk).mono (by omega : w.heap.size ≤ W2.heap.size))
  have hX5s : gX < ((W4.alloc (.cells #[.int .i64 0, .int .i64 0, .int .i64 0, .int .i64 0, .int .i64 0, .int .i64 0, .string ⟨#[]⟩, .bool false, .int .i64 0, .int .i64 0, .slice none 0 0, .slice none 0 0, .bool false, .int .i64 0, .int .i64 0, .int .i64 0, .int .i64 0, .string ⟨#[]⟩] 29)).setRow gX #[.int .i64 x0, .int .i64 x1, .int .i64 x2, .int .i64 x3, .int .i64 x4, .int .i64 x5, .string (st xn), .bool xd, .int .i64 xv, .int .i64 xp, .slice Xq mq dq, .slice Xd md dd, .bool yd, .int .i64 yv, .int .i64 yp, .int .i64 x6, .int .i64 x7, .string (st xm)]).heap.size := hX5.lt
  have HX5 := Lib.hid hX5
  have HZ5 := Lib.hid hZ5
  have HQ5 := Lib.hid hoq5
  have HD5 := Lib.hid hod5
  have HB5 := Lib.hid hB5
  have HGX := Lib.hid hgXe
  have gXZ : gX ≠ gZ := by omega
  have gXw : w.heap.size ≤ gX := by omega
  have gWX : W2.heap.size ≤ gX := by omega
  clear hXZ hKs hbal hbk hX5 hZ5 hoq hod hoq5 hod5 hB5 hb4 hgXe
  go_upto_region 2 with (refine wpList_storeBlk rfl (.tmp 9) (.tmp 11) rfl rfl [.int .i64 x0, .int .i64 x1, .int .i64 x2, .int .i64 x3, .int .i64 x4, .int .i64 x5, .string (st xn), .bool xd, .int .i64 xv, .int .i64 xp, .slice Xq mq dq, .slice Xd md dd, .bool yd, .int .i64 yv, .int .i64 yp, .int .i64 x6, .int .i64 x7, .string (st xm)] rfl rfl (by kernel_rfl) hW4a rfl (by simp [Value.oneCell']) ?_)
  rw [← HGX.out]
  generalize (W4.alloc (.cells #[.int .i64 0, .int .i64 0, .int .i64 0, .int .i64 0, .int .i64 0, .int .i64 0, .string ⟨#[]⟩, .bool false, .int .i64 0, .int .i64 0, .slice none 0 0, .slice none 0 0, .bool false, .int .i64 0, .int .i64 0, .int .i64 0, .int .i64 0, .string ⟨#[]⟩] 29)).setRow gX #[.int .i64 x0, .int .i64 x1, .int .i64 x2, .int .i64 x3, .int .i64 x4, .int .i64 x5, .string (st xn), .bool xd, .int .i64 xv, .int .i64 xp, .slice Xq mq dq, .slice Xd md dd, .bool yd, .int .i64 yv, .int .i64 yp, .int .i64 x6, .int .i64 x7, .string (st xm)] = W5 at HX5 HZ5 HQ5 HD5 HB5 hX5s ⊢
  clear hW4a
  have hnq := HQ5.out.len
  have hnd := HD5.out.len
  simp only [List.length_map] at hnq
  go_wp2_with fail
  refine (tAround_det which 14 _ hw.1 hw.2 (by omega) (by omega)).mono ?_
  rintro e w' ⟨rfl, rfl⟩
  rw [show up0 which % (14 : Nat) = 7 from hk]
  have ku := HX5.out.cell 8 _ rfl
  have kf := HX5.out.free 8
  have hX6 := HX5.out.set 8 (.int .i64 n)
  have hZ6 := HZ5.out.other (p := ⟨gX, 8, none⟩) gXZ (.int .i64 n)
  have hk6 : Keeps (Is gX) W5 (W5.setCell ⟨gX, 8, none⟩ (.int .i64 n)) := (Keeps.refl (Is gX) _).setCell (p := ⟨gX, 8, none⟩) (.inl rfl) _
  have hQ6 : OwR (W5.setCell ⟨gX, 8, none⟩ (.int .i64 n)) W2.heap.size 23 3 Xq mq dq (xq.map qidC) := OwR.farG HQ5.out HX5.out (by decide) hk6
  have hD6 : OwB (W5.setCell ⟨gX, 8, none⟩ (.int .i64 n)) W2.heap.size Xd md dd xl := OwB.farG HD5.out HX5.out (by decide) hk6
  have hB6 := HB5.out.trans (hk6.is gXw (Nat.le_of_lt hX5s))
  go_upto_region 30 with fail
  generalize W5.setCell ⟨gX, 8, none⟩ (.int .i64 n) = W6 at hX6 hZ6 hQ6 hD6 hB6 ⊢
  have HZ6 := Lib.hid hZ6
  have HQ6 := Lib.hid hQ6
  have HD6 := Lib.hid hD6
  have HB6 := Lib.hid hB6
  clear ku kf hk6 hZ6 hQ6 hD6 hB6
  have hl1 : xq.length ≤ 8 := hlens.1
  have hl2 : xl.length ≤ 30 := hlens.2.1
  have hl3 : xn.length ≤ 40 := hlens.2.2.1
  have hl4 : xm.length ≤ 40 := hlens.2.2.2
  have hpost : Keeps (Is gZ) W6 (W6.setRow gZ #[.int .i64 x0, .int .i64 x1, .int .i64 x2, .int .i64 x3, .int .i64 x4, .int .i64 x5, .string (st xn), .bool xd, .int .i64 n, .int .i64 xp, .slice Xq mq dq, .slice Xd md dd, .bool yd, .int .i64 yv, .int .i64 yp, .int .i64 x6, .int .i64 x7, .string (st xm)]) → OddPost w (.returned (.agg #[.int .i64 x0, .int .i64 x1, .int .i64 x2, .int .i64 x3, .int .i64 x4, .int .i64 x5, .string (st xn), .bool xd, .int .i64 n, .int .i64 xp, .slice Xq mq dq, .slice Xd md dd, .bool yd, .int .i64 yv, .int .i64 yp, .int .i64 x6, .int .i64 x7, .string (st xm)])) (W6.setRow gZ #[.int .i64 x0, .int .i64 x1, .int .i64 x2, .int .i64 x3, .int .i64 x4, .int .i64 x5, .string (st xn), .bool xd, .int .i64 n, .int .i64 xp, .slice Xq mq dq, .slice Xd md dd, .bool yd, .int .i64 yv, .int .i64 yp, .int .i64 x6, .int .i64 x7, .string (st xm)]) := by
    intro hKz
    refine ⟨⟨x0, x1, x2, x3, x4, x5, xn, ⟨xd, n, xp⟩, xq, xl, ⟨yd, yv, yp⟩, x6, x7, xm⟩, Xq, mq, dq, Xd, md, dd, rfl, ⟨?_, ?_, ?_, ?_, ?_, ?_⟩, below_setRow HB6.out (by omega) _⟩
    · exact OwR.rd (OwR.keeps HQ6.out hKz (fun k hk e => by have e' : k = gZ := e; omega))
    · exact OwB.rd (Own.keeps HD6.out hKz (fun k hk e => by have e' : k = gZ := e; omega))
    · omega
    · omega
    · first | exact Nat.le_trans hl3 (by omega) | exact Nat.le_trans hs3l (by omega)
    · first | exact Nat.le_trans hl4 (by omega) | exact Nat.le_trans hs3l (by omega)
  have HPOST := Lib.hid hpost
  clear hpost
  have hXf := hX6
  have hF := HZ6.out.setRow [.int .i64 x0, .int .i64 x1, .int .i64 x2, .int .i64 x3, .int .i64 x4, .int .i64 x5, .string (st xn), .bool xd, .int .i64 n, .int .i64 xp, .slice Xq mq dq, .slice Xd md dd, .bool yd, .int .i64 yv, .int .i64 yp, .int .i64 x6, .int .i64 x7, .string (st xm)]
  go_wp2_with first
    | (refine wpList_loadBlk rfl (.tmp 9) rfl rfl (by kernel_rfl) tellT_agg hXf ?_; simp only [Act.put, List.setIfInBounds_toArray, List.set_cons_succ, List.set_cons_zero])
    | (refine wpList_storeBlk rfl (.tmp 8) (.tmp 82) rfl rfl [.int .i64 x0, .int .i64 x1, .int .i64 x2, .int .i64 x3, .int .i64 x4, .int .i64 x5, .string (st xn), .bool xd, .int .i64 n, .int .i64 xp, .slice Xq mq dq, .slice Xd md dd, .bool yd, .int .i64 yv, .int .i64 yp, .int .i64 x6, .int .i64 x7, .string (st xm)] rfl rfl (by kernel_rfl) HZ6.out rfl (by simp [Value.oneCell']) ?_)
  have hKz := keeps_setRow W6 (g := gZ) #[.int .i64 x0, .int .i64 x1, .int .i64 x2, .int .i64 x3, .int .i64 x4, .int .i64 x5, .string (st xn), .bool xd, .int .i64 n, .int .i64 xp, .slice Xq mq dq, .slice Xd md dd, .bool yd, .int .i64 yv, .int .i64 yp, .int .i64 x6, .int .i64 x7, .string (st xm)]
  exact bodyPost_ret (v := .agg #[.int .i64 x0, .int .i64 x1, .int .i64 x2, .int .i64 x3, .int .i64 x4, .int .i64 x5, .string (st xn), .bool xd, .int .i64 n, .int .i64 xp, .slice Xq mq dq, .slice Xd md dd, .bool yd, .int .i64 yv, .int .i64 yp, .int .i64 x6, .int .i64 x7, .string (st xm)]) (results_cellBlk Try.results11 rfl hF (by kernel_rfl) tellT_agg) rfl (HPOST.out hKz)

set_option maxRecDepth 100000 in
set_option maxHeartbeats 4000000 in
theorem odd_8 (kind tag code msize iounit count : Int) (name : List UInt8) (qdir : Bool) (qver qpath : Int) (qids : List QidV) (data : List UInt8) (sdir : Bool) (sver spath smode ssize : Int) (sname : List UInt8) (Aq : Option Addr) (nq cq : Nat) (Ad : Option Addr) (nd cd : Nat) (which n : Int) (s : List UInt8) (w : World)
    (hok : TellOk w w.heap.size ⟨kind, tag, code, msize, iounit, count, name, ⟨qdir, qver, qpath⟩, qids, data, ⟨sdir, sver, spath⟩, smode, ssize, sname⟩ Aq nq cq Ad nd cd) (hw : I64 which) (hs : s.length ≤ 9223372036854775807) (hk : up0 which % 14 = 8) :
    Calls Try.prog 11 #[.agg #[.int .i64 kind, .int .i64 tag, .int .i64 code, .int .i64 msize, .int .i64 iounit, .int .i64 count, .string (st name), .bool qdir, .int .i64 qver, .int .i64 qpath, .slice Aq nq cq, .slice Ad nd cd, .bool sdir, .int .i64 sver, .int .i64 spath, .int .i64 smode, .int .i64 ssize, .string (st sname)], .int .i64 which, .int .i64 n, .string (st s)] w (OddPost w) := by
  have hA0 := Blk.new w 29 [.int .i64 kind, .int .i64 tag, .int .i64 code, .int .i64 msize, .int .i64 iounit, .int .i64 count, .string (st name), .bool qdir, .int .i64 qver, .int .i64 qpath, .slice Aq nq cq, .slice Ad nd cd, .bool sdir, .int .i64 sver, .int .i64 spath, .int .i64 smode, .int .i64 ssize, .string (st sname)]
  have hZ0 := Blk.new (w.alloc (.cells #[.int .i64 kind, .int .i64 tag, .int .i64 code, .int .i64 msize, .int .i64 iounit, .int .i64 count, .string (st name), .bool qdir, .int .i64 qver, .int .i64 qpath, .slice Aq nq cq, .slice Ad nd cd, .bool sdir, .int .i64 sver, .int .i64 spath, .int .i64 smode, .int .i64 ssize, .string (st sname)] 29)) 29 [.int .i64 0, .int .i64 0, .int .i64 0, .int .i64 0, .int .i64 0, .int .i64 0, .string ByteArray.empty, .bool false, .int .i64 0, .int .i64 0, .slice none 0 0, .slice none 0 0, .bool false, .int .i64 0, .int .i64 0, .int .i64 0, .int .i64 0, .string ByteArray.empty]
  obtain ⟨W2, hW2⟩ : ∃ x, x = (w.alloc (.cells #[.int .i64 kind, .int .i64 tag, .int .i64 code, .int .i64 msize, .int .i64 iounit, .int .i64 count, .string (st name), .bool qdir, .int .i64 qver, .int .i64 qpath, .slice Aq nq cq, .slice Ad nd cd, .bool sdir, .int .i64 sver, .int .i64 spath, .int .i64 smode, .int .i64 ssize, .string (st sname)] 29)).alloc (.cells #[.int .i64 0, .int .i64 0, .int .i64 0, .int .i64 0, .int .i64 0, .int .i64 0, .string ByteArray.empty, .bool false, .int .i64 0, .int .i64 0, .slice none 0 0, .slice none 0 0, .bool false, .int .i64 0, .int .i64 0, .int .i64 0, .int .i64 0, .string ByteArray.empty] 29) := ⟨_, rfl⟩
  have hA2 : Blk W2 w.heap.size 29 [.int .i64 kind, .int .i64 tag, .int .i64 code, .int .i64 msize, .int .i64 iounit, .int .i64 count, .string (st name), .bool qdir, .int .i64 qver, .int .i64 qpath, .slice Aq nq cq, .slice Ad nd cd, .bool sdir, .int .i64 sver, .int .i64 spath, .int .i64 smode, .int .i64 ssize, .string (st sname)] := by rw [hW2]; exact hA0.alloc _
  have hZ2 : Blk W2 (w.heap.size + 1) 29 [.int .i64 0, .int .i64 0, .int .i64 0, .int .i64 0, .int .i64 0, .int .i64 0, .string ByteArray.empty, .bool false, .int .i64 0, .int .i64 0, .slice none 0 0, .slice none 0 0, .bool false, .int .i64 0, .int .i64 0, .int .i64 0, .int .i64 0, .string ByteArray.empty] := by rw [hW2]; simpa using hZ0
  have hb2 : Below w.heap.size w W2 := by rw [hW2]; exact ((Below.refl _ _).alloc (Nat.le_refl _) _).alloc (by simp) _
  have hW3 : W2 = (w.alloc (.cells #[.int .i64 kind, .int .i64 tag, .int .i64 code, .int .i64 msize, .int .i64 iounit, .int .i64 count, .string (st name), .bool qdir, .int .i64 qver, .int .i64 qpath, .slice Aq nq cq, .slice Ad nd cd, .bool sdir, .int .i64 sver, .int .i64 spath, .int .i64 smode, .int .i64 ssize, .string (st sname)] 29)).alloc (.cells #[.int .i64 0, .int .i64 0, .int .i64 0, .int .i64 0, .int .i64 0, .int .i64 0, .string ⟨#[]⟩, .bool false, .int .i64 0, .int .i64 0, .slice none 0 0, .slice none 0 0, .bool false, .int .i64 0, .int .i64 0, .int .i64 0, .int .i64 0, .string ⟨#[]⟩] 29) := hW2
  obtain ⟨gZ, hgZ⟩ : ∃ x, x = w.heap.size + 1 := ⟨_, rfl⟩
  rw [← hgZ] at hZ2
  have gA_lt : w.heap.size < gZ := by omega
  have gZ_lt : gZ < W2.heap.size := hZ2.lt
  have HZ := Lib.hid hZ2
  have HB2 := Lib.hid hb2
  have GZ := Lib.hid hgZ
  have HOK2 := Lib.hid ((show TellOk W2 W2.heap.size _ Aq nq cq Ad nd cd from { (hok.up hb2) with qids := (hok.qids.below hb2).more hb2.size, data := (hok.data.below hb2).more hb2.size }))
  clear hA0 hZ0 hZ2 hb2 hW2 hgZ hok
  go_enter Try.func11, Try.ntmps11
  go_upto_region 1 with fail
  rw [← hW3, ← GZ.out]
  clear hW3
  go_wp2_with (refine wpList_loadBlk rfl (.tmp 4) rfl rfl (by kernel_rfl) tellT_agg hA2 ?_; simp only [Act.put, List.setIfInBounds_toArray, List.set_cons_succ, List.set_cons_zero])
  refine (goodT_any kind tag code msize iounit count name qdir qver qpath qids data sdir sver spath smode ssize sname Aq nq cq Ad nd cd _ HOK2.out).mono ?_
  rintro e W4 ⟨x, Xq, mq, dq, Xd, md, dd, hx, rfl, hoq, hod, hb4⟩
  have hlens := goodT_lens ⟨kind, tag, code, msize, iounit, count, name, ⟨qdir, qver, qpath⟩, qids, data, ⟨sdir, sver, spath⟩, smode, ssize, sname⟩
  rw [← hx.out] at hlens
  clear hx hA2
  obtain ⟨x0, x1, x2, x3, x4, x5, xn, ⟨xd, xv, xp⟩, xq, xl, ⟨yd, yv, yp⟩, x6, x7, xm⟩ := x
  simp only [tellC]
  have hXZ := Blk.new W4 29 [.int .i64 0, .int .i64 0, .int .i64 0, .int .i64 0, .int .i64 0, .int .i64 0, .string ByteArray.empty, .bool false, .int .i64 0, .int .i64 0, .slice none 0 0, .slice none 0 0, .bool false, .int .i64 0, .int .i64 0, .int .i64 0, .int .i64 0, .string ByteArray.empty]
  have hgX : W2.heap.size ≤ W4.heap.size := hb4.size
  have hW4a : Blk (W4.alloc (.cells #[.int .i64 0, .int .i64 0, .int .i64 0, .int .i64 0, .int .i64 0, .int .i64 0, .string ⟨#[]⟩, .bool false, .int .i64 0, .int .i64 0, .slice none 0 0, .slice none 0 0, .bool false, .int .i64 0, .int .i64 0, .int .i64 0, .int .i64 0, .string ⟨#[]⟩] 29)) W4.heap.size 29 [.int .i64 0, .int .i64 0, .int .i64 0, .int .i64 0, .int .i64 0, .int .i64 0, .string ByteArray.empty, .bool false, .int .i64 0, .int .i64 0, .slice none 0 0, .slice none 0 0, .bool false, .int .i64 0, .int .i64 0, .int .i64 0, .int .i64 0, .string ByteArray.empty] := hXZ
  obtain ⟨gX, hgXe⟩ : ∃ x, x = W4.heap.size := ⟨_, rfl⟩
  have hKs := keeps_setRow (W4.alloc (.cells #[.int .i64 0, .int .i64 0, .int .i64 0, .int .i64 0, .int .i64 0, .int .i64 0, .string ⟨#[]⟩, .bool false, .int .i64 0, .int .i64 0, .slice none 0 0, .slice none 0 0, .bool false, .int .i64 0, .int .i64 0, .int .i64 0, .int .i64 0, .string ⟨#[]⟩] 29)) (g := gX) #[.int .i64 x0, .int .i64 x1, .int .i64 x2, .int .i64 x3, .int .i64 x4, .int .i64 x5, .string (st xn), .bool xd, .int .i64 xv, .int .i64 xp, .slice Xq mq dq, .slice Xd md dd, .bool yd, .int .i64 yv, .int .i64 yp, .int .i64 x6, .int .i64 x7, .string (st xm)]
  have hbal : Below W4.heap.size W4 (W4.alloc (.cells #[.int .i64 0, .int .i64 0, .int .i64 0, .int .i64 0, .int .i64 0, .int .i64 0, .string ⟨#[]⟩, .bool false, .int .i64 0, .int .i64 0, .slice none 0 0, .slice none 0 0, .bool false, .int .i64 0, .int .i64 0, .int .i64 0, .int .i64 0, .string ⟨#[]⟩] 29)) := (Below.refl _ _).alloc (Nat.le_refl _) _
  have hbk : Below W4.heap.size W4 ((W4.alloc (.cells #[.int .i64 0, .int .i64 0, .int .i64 0, .int .i64 0, .int .i64 0, .int .i64 0, .string ⟨#[]⟩, .bool false, .int .i64 0, .int .i64 0, .slice none 0 0, .slice none 0 0, .bool false, .int .i64 0, .int .i64 0, .int .i64 0, .int .i64 0, .string ⟨#[]⟩] 29)).setRow gX #[.int .i64 x0, .int .i64 x1, .int .i64 x2, .int .i64 x3, .int .i64 x4, .int .i64 x5, .string (st xn), .bool xd, .int .i64 xv, .int .i64 xp, .slice Xq mq dq, .slice Xd md dd, .bool yd, .int .i64 yv, .int .i64 yp, .int .i64 x6, .int .i64 x7, .string (st xm)]) := hbal.trans (hKs.is (by omega) (by rw [hgXe]; simp))
  have hX5 : Blk ((W4.alloc (.cells #[.int .i64 0, .int .i64 0, .int .i64 0, .int .i64 0, .int .i64 0, .int .i64 0, .string ⟨#[]⟩, .bool false, .int .i64 0, .int .i64 0, .slice none 0 0, .slice none 0 0, .bool false, .int .i64 0, .int .i64 0, .int .i64 0, .int .i64 0, .string ⟨#[]⟩] 29)).setRow gX #[.int .i64 x0, .int .i64 x1, .int .i64 x2, .int .i64 x3, .int .i64 x4, .int .i64 x5, .string (st xn), .bool xd, .int .i64 xv, .int .i64 xp, .slice Xq mq dq, .slice Xd md dd, .bool yd, .int .i64 yv, .int .i64 yp, .int .i64 x6, .int .i64 x7, .string (st xm)]) gX 29 [.int .i64 x0, .int .i64 x1, .int .i64 x2, .int .i64 x3, .int .i64 x4, .int .i64 x5, .string (st xn), .bool xd, .int .i64 xv, .int .i64 xp, .slice Xq mq dq, .slice Xd md dd, .bool yd, .int .i64 yv, .int .i64 yp, .int .i64 x6, .int .i64 x7, .string (st xm)] := by
    rw [hgXe]; exact hW4a.setRow [.int .i64 x0, .int .i64 x1, .int .i64 x2, .int .i64 x3, .int .i64 x4, .int .i64 x5, .string (st xn), .bool xd, .int .i64 xv, .int .i64 xp, .slice Xq mq dq, .slice Xd md dd, .bool yd, .int .i64 yv, .int .i64 yp, .int .i64 x6, .int .i64 x7, .string (st xm)]
  have hZ5 := (HZ.out.up hb4).up hbk
  have hoq5 := hoq.up hbk
  have hod5 := hod.up hbk
  have hB5 := HB2.out.trans ((Up.trans hb4 hbk).mono (by omega : w.heap.size ≤ W2.heap.size))
  have hX5s : gX < ((W4.alloc (.cells #[.int .i64 0, .int .i64 0, .int .i64 0, .int .i64 0, .int .i64 0, .int .i64 0, .string ⟨#[]⟩, .bool false, .int .i64 0, .int .i64 0, .slice none 0 0, .slice none 0 0, .bool false, .int .i64 0, .int .i64 0, .int .i64 0, .int .i64 0, .string ⟨#[]⟩] 29)).setRow gX #[.int .i64 x0, .int .i64 x1, .int .i64 x2, .int .i64 x3, .int .i64 x4, .int .i64 x5, .string (st xn), .bool xd, .int .i64 xv, .int .i64 xp, .slice Xq mq dq, .slice Xd md dd, .bool yd, .int .i64 yv, .int .i64 yp, .int .i64 x6, .int .i64 x7, .string (st xm)]).heap.size := hX5.lt
  have HX5 := Lib.hid hX5
  have HZ5 := Lib.hid hZ5
  have HQ5 := Lib.hid hoq5
  have HD5 := Lib.hid hod5
  have HB5 := Lib.hid hB5
  have HGX := Lib.hid hgXe
  have gXZ : gX ≠ gZ := by omega
  have gXw : w.heap.size ≤ gX := by omega
  have gWX : W2.heap.size ≤ gX := by omega
  clear hXZ hKs hbal hbk hX5 hZ5 hoq hod hoq5 hod5 hB5 hb4 hgXe
  go_upto_region 2 with (refine wpList_storeBlk rfl (.tmp 9) (.tmp 11) rfl rfl [.int .i64 x0, .int .i64 x1, .int .i64 x2, .int .i64 x3, .int .i64 x4, .int .i64 x5, .string (st xn), .bool xd, .int .i64 xv, .int .i64 xp, .slice Xq mq dq, .slice Xd md dd, .bool yd, .int .i64 yv, .int .i64 yp, .int .i64 x6, .int .i64 x7, .string (st xm)] rfl rfl (by kernel_rfl) hW4a rfl (by simp [Value.oneCell']) ?_)
  rw [← HGX.out]
  generalize (W4.alloc (.cells #[.int .i64 0, .int .i64 0, .int .i64 0, .int .i64 0, .int .i64 0, .int .i64 0, .string ⟨#[]⟩, .bool false, .int .i64 0, .int .i64 0, .slice none 0 0, .slice none 0 0, .bool false, .int .i64 0, .int .i64 0, .int .i64 0, .int .i64 0, .string ⟨#[]⟩] 29)).setRow gX #[.int .i64 x0, .int .i64 x1, .int .i64 x2, .int .i64 x3, .int .i64 x4, .int .i64 x5, .string (st xn), .bool xd, .int .i64 xv, .int .i64 xp, .slice Xq mq dq, .slice Xd md dd, .bool yd, .int .i64 yv, .int .i64 yp, .int .i64 x6, .int .i64 x7, .string (st xm)] = W5 at HX5 HZ5 HQ5 HD5 HB5 hX5s ⊢
  clear hW4a
  have hnq := HQ5.out.len
  have hnd := HD5.out.len
  simp only [List.length_map] at hnq
  go_wp2_with fail
  refine (tAround_det which 14 _ hw.1 hw.2 (by omega) (by omega)).mono ?_
  rintro e w' ⟨rfl, rfl⟩
  rw [show up0 which % (14 : Nat) = 8 from hk]
  have ku := HX5.out.cell 9 _ rfl
  have kf := HX5.out.free 9
  have hX6 := HX5.out.set 9 (.int .i64 n)
  have hZ6 := HZ5.out.other (p := ⟨gX, 9, none⟩) gXZ (.int .i64 n)
  have hk6 : Keeps (Is gX) W5 (W5.setCell ⟨gX, 9, none⟩ (.int .i64 n)) := (Keeps.refl (Is gX) _).setCell (p := ⟨gX, 9, none⟩) (.inl rfl) _
  have hQ6 : OwR (W5.setCell ⟨gX, 9, none⟩ (.int .i64 n)) W2.heap.size 23 3 Xq mq dq (xq.map qidC) := OwR.farG HQ5.out HX5.out (by decide) hk6
  have hD6 : OwB (W5.setCell ⟨gX, 9, none⟩ (.int .i64 n)) W2.heap.size Xd md dd xl := OwB.farG HD5.out HX5.out (by decide) hk6
  have hB6 := HB5.out.trans (hk6.is gXw (Nat.le_of_lt hX5s))
  go_upto_region 30 with fail
  generalize W5.setCell ⟨gX, 9, none⟩ (.int .i64 n) = W6 at hX6 hZ6 hQ6 hD6 hB6 ⊢
  have HZ6 := Lib.hid hZ6
  have HQ6 := Lib.hid hQ6
  have HD6 := Lib.hid hD6
  have HB6 := Lib.hid hB6
  clear ku kf hk6 hZ6 hQ6 hD6 hB6
  have hl1 : xq.length ≤ 8 := hlens.1
  have hl2 : xl.length ≤ 30 := hlens.2.1
  have hl3 : xn.length ≤ 40 := hlens.2.2.1
  have hl4 : xm.length ≤ 40 := hlens.2.2.2
  have hpost : Keeps (Is gZ) W6 (W6.setRow gZ #[.int .i64 x0, .int .i64 x1, .int .i64 x2, .int .i64 x3, .int .i64 x4, .int .i64 x5, .string (st xn), .bool xd, .int .i64 xv, .int .i64 n, .slice Xq mq dq, .slice Xd md dd, .bool yd, .int .i64 yv, .int .i64 yp, .int .i64 x6, .int .i64 x7, .string (st xm)]) → OddPost w (.returned (.agg #[.int .i64 x0, .int .i64 x1, .int .i64 x2, .int .i64 x3, .int .i64 x4, .int .i64 x5, .string (st xn), .bool xd, .int .i64 xv, .int .i64 n, .slice Xq mq dq, .slice Xd md dd, .bool yd, .int .i64 yv, .int .i64 yp, .int .i64 x6, .int .i64 x7, .string (st xm)])) (W6.setRow gZ #[.int .i64 x0, .int .i64 x1, .int .i64 x2, .int .i64 x3, .int .i64 x4, .int .i64 x5, .string (st xn), .bool xd, .int .i64 xv, .int .i64 n, .slice Xq mq dq, .slice Xd md dd, .bool yd, .int .i64 yv, .int .i64 yp, .int .i64 x6, .int .i64 x7, .string (st xm)]) := by
    intro hKz
    refine ⟨⟨x0, x1, x2, x3, x4, x5, xn, ⟨xd, xv, n⟩, xq, xl, ⟨yd, yv, yp⟩, x6, x7, xm⟩, Xq, mq, dq, Xd, md, dd, rfl, ⟨?_, ?_, ?_, ?_, ?_, ?_⟩, below_setRow HB6.out (by omega) _⟩
    · exact OwR.rd (OwR.keeps HQ6.out hKz (fun k hk e => by have e' : k = gZ := e; omega))
    · exact OwB.rd (Own.keeps HD6.out hKz (fun k hk e => by have e' : k = gZ := e; omega))
    · omega
    · omega
    · first | exact Nat.le_trans hl3 (by omega) | exact Nat.le_trans hs3l (by omega)
    · first | exact Nat.le_trans hl4 (by omega) | exact Nat.le_trans hs3l (by omega)
  have HPOST := Lib.hid hpost
  clear hpost
  have hXf := hX6
  have hF := HZ6.out.setRow [.int .i64 x0, .int .i64 x1, .int .i64 x2, .int .i64 x3, .int .i64 x4, .int .i64 x5, .string (st xn), .bool xd, .int .i64 xv, .int .i64 n, .slice Xq mq dq, .slice Xd md dd, .bool yd, .int .i64 yv, .int .i64 yp, .int .i64 x6, .int .i64 x7, .string (st xm)]
  go_wp2_with first
    | (refine wpList_loadBlk rfl (.tmp 9) rfl rfl (by kernel_rfl) tellT_agg hXf ?_; simp only [Act.put, List.setIfInBounds_toArray, List.set_cons_succ, List.set_cons_zero])
    | (refine wpList_storeBlk rfl (.tmp 8) (.tmp 82) rfl rfl [.int .i64 x0, .int .i64 x1, .int .i64 x2, .int .i64 x3, .int .i64 x4, .int .i64 x5, .string (st xn), .bool xd, .int .i64 xv, .int .i64 n, .slice Xq mq dq, .slice Xd md dd, .bool yd, .int .i64 yv, .int .i64 yp, .int .i64 x6, .int .i64 x7, .string (st xm)] rfl rfl (by kernel_rfl) HZ6.out rfl (by simp [Value.oneCell']) ?_)
  have hKz := keeps_setRow W6 (g := gZ) #[.int .i64 x0, .int .i64 x1, .int .i64 x2, .int .i64 x3, .int .i64 x4, .int .i64 x5, .string (st xn), .bool xd, .int .i64 xv, .int .i64 n, .slice Xq mq dq, .slice Xd md dd, .bool yd, .int .i64 yv, .int .i64 yp, .int .i64 x6, .int .i64 x7, .string (st xm)]
  exact bodyPost_ret (v := .agg #[.int .i64 x0, .int .i64 x1, .int .i64 x2, .int .i64 x3, .int .i64 x4, .int .i64 x5, .string (st xn), .bool xd, .int .i64 xv, .int .i64 n, .slice Xq mq dq, .slice Xd md dd, .bool yd, .int .i64 yv, .int .i64 yp, .int .i64 x6, .int .i64 x7, .string (st xm)]) (results_cellBlk Try.results11 rfl hF (by kernel_rfl) tellT_agg) rfl (HPOST.out hKz)

set_option maxRecDepth 100000 in
set_option maxHeartbeats 4000000 in
theorem odd_9 (kind tag code msize iounit count : Int) (name : List UInt8) (qdir : Bool) (qver qpath : Int) (qids : List QidV) (data : List UInt8) (sdir : Bool) (sver spath smode ssize : Int) (sname : List UInt8) (Aq : Option Addr) (nq cq : Nat) (Ad : Option Addr) (nd cd : Nat) (which n : Int) (s : List UInt8) (w : World)
    (hok : TellOk w w.heap.size ⟨kind, tag, code, msize, iounit, count, name, ⟨qdir, qver, qpath⟩, qids, data, ⟨sdir, sver, spath⟩, smode, ssize, sname⟩ Aq nq cq Ad nd cd) (hw : I64 which) (hs : s.length ≤ 9223372036854775807) (hk : up0 which % 14 = 9) :
    Calls Try.prog 11 #[.agg #[.int .i64 kind, .int .i64 tag, .int .i64 code, .int .i64 msize, .int .i64 iounit, .int .i64 count, .string (st name), .bool qdir, .int .i64 qver, .int .i64 qpath, .slice Aq nq cq, .slice Ad nd cd, .bool sdir, .int .i64 sver, .int .i64 spath, .int .i64 smode, .int .i64 ssize, .string (st sname)], .int .i64 which, .int .i64 n, .string (st s)] w (OddPost w) := by
  have hA0 := Blk.new w 29 [.int .i64 kind, .int .i64 tag, .int .i64 code, .int .i64 msize, .int .i64 iounit, .int .i64 count, .string (st name), .bool qdir, .int .i64 qver, .int .i64 qpath, .slice Aq nq cq, .slice Ad nd cd, .bool sdir, .int .i64 sver, .int .i64 spath, .int .i64 smode, .int .i64 ssize, .string (st sname)]
  have hZ0 := Blk.new (w.alloc (.cells #[.int .i64 kind, .int .i64 tag, .int .i64 code, .int .i64 msize, .int .i64 iounit, .int .i64 count, .string (st name), .bool qdir, .int .i64 qver, .int .i64 qpath, .slice Aq nq cq, .slice Ad nd cd, .bool sdir, .int .i64 sver, .int .i64 spath, .int .i64 smode, .int .i64 ssize, .string (st sname)] 29)) 29 [.int .i64 0, .int .i64 0, .int .i64 0, .int .i64 0, .int .i64 0, .int .i64 0, .string ByteArray.empty, .bool false, .int .i64 0, .int .i64 0, .slice none 0 0, .slice none 0 0, .bool false, .int .i64 0, .int .i64 0, .int .i64 0, .int .i64 0, .string ByteArray.empty]
  obtain ⟨W2, hW2⟩ : ∃ x, x = (w.alloc (.cells #[.int .i64 kind, .int .i64 tag, .int .i64 code, .int .i64 msize, .int .i64 iounit, .int .i64 count, .string (st name), .bool qdir, .int .i64 qver, .int .i64 qpath, .slice Aq nq cq, .slice Ad nd cd, .bool sdir, .int .i64 sver, .int .i64 spath, .int .i64 smode, .int .i64 ssize, .string (st sname)] 29)).alloc (.cells #[.int .i64 0, .int .i64 0, .int .i64 0, .int .i64 0, .int .i64 0, .int .i64 0, .string ByteArray.empty, .bool false, .int .i64 0, .int .i64 0, .slice none 0 0, .slice none 0 0, .bool false, .int .i64 0, .int .i64 0, .int .i64 0, .int .i64 0, .string ByteArray.empty] 29) := ⟨_, rfl⟩
  have hA2 : Blk W2 w.heap.size 29 [.int .i64 kind, .int .i64 tag, .int .i64 code, .int .i64 msize, .int .i64 iounit, .int .i64 count, .string (st name), .bool qdir, .int .i64 qver, .int .i64 qpath, .slice Aq nq cq, .slice Ad nd cd, .bool sdir, .int .i64 sver, .int .i64 spath, .int .i64 smode, .int .i64 ssize, .string (st sname)] := by rw [hW2]; exact hA0.alloc _
  have hZ2 : Blk W2 (w.heap.size + 1) 29 [.int .i64 0, .int .i64 0, .int .i64 0, .int .i64 0, .int .i64 0, .int .i64 0, .string ByteArray.empty, .bool false, .int .i64 0, .int .i64 0, .slice none 0 0, .slice none 0 0, .bool false, .int .i64 0, .int .i64 0, .int .i64 0, .int .i64 0, .string ByteArray.empty] := by rw [hW2]; simpa using hZ0
  have hb2 : Below w.heap.size w W2 := by rw [hW2]; exact ((Below.refl _ _).alloc (Nat.le_refl _) _).alloc (by simp) _
  have hW3 : W2 = (w.alloc (.cells #[.int .i64 kind, .int .i64 tag, .int .i64 code, .int .i64 msize, .int .i64 iounit, .int .i64 count, .string (st name), .bool qdir, .int .i64 qver, .int .i64 qpath, .slice Aq nq cq, .slice Ad nd cd, .bool sdir, .int .i64 sver, .int .i64 spath, .int .i64 smode, .int .i64 ssize, .string (st sname)] 29)).alloc (.cells #[.int .i64 0, .int .i64 0, .int .i64 0, .int .i64 0, .int .i64 0, .int .i64 0, .string ⟨#[]⟩, .bool false, .int .i64 0, .int .i64 0, .slice none 0 0, .slice none 0 0, .bool false, .int .i64 0, .int .i64 0, .int .i64 0, .int .i64 0, .string ⟨#[]⟩] 29) := hW2
  obtain ⟨gZ, hgZ⟩ : ∃ x, x = w.heap.size + 1 := ⟨_, rfl⟩
  rw [← hgZ] at hZ2
  have gA_lt : w.heap.size < gZ := by omega
  have gZ_lt : gZ < W2.heap.size := hZ2.lt
  have HZ := Lib.hid hZ2
  have HB2 := Lib.hid hb2
  have GZ := Lib.hid hgZ
  have HOK2 := Lib.hid ((show TellOk W2 W2.heap.size _ Aq nq cq Ad nd cd from { (hok.up hb2) with qids := (hok.qids.below hb2).more hb2.size, data := (hok.data.below hb2).more hb2.size }))
  clear hA0 hZ0 hZ2 hb2 hW2 hgZ hok
  go_enter Try.func11, Try.ntmps11
  go_upto_region 1 with fail
  rw [← hW3, ← GZ.out]
  clear hW3
  go_wp2_with (refine wpList_loadBlk rfl (.tmp 4) rfl rfl (by kernel_rfl) tellT_agg hA2 ?_; simp only [Act.put, List.setIfInBounds_toArray, List.set_cons_succ, List.set_cons_zero])
  refine (goodT_any kind tag code msize iounit count name qdir qver qpath qids data sdir sver spath smode ssize sname Aq nq cq Ad nd cd _ HOK2.out).mono ?_
  rintro e W4 ⟨x, Xq, mq, dq, Xd, md, dd, hx, rfl, hoq, hod, hb4⟩
  have hlens := goodT_lens ⟨kind, tag, code, msize, iounit, count, name, ⟨qdir, qver, qpath⟩, qids, data, ⟨sdir, sver, spath⟩, smode, ssize, sname⟩
  rw [← hx.out] at hlens
  clear hx hA2
  obtain ⟨x0, x1, x2, x3, x4, x5, xn, ⟨xd, xv, xp⟩, xq, xl, ⟨yd, yv, yp⟩, x6, x7, xm⟩ := x
  simp only [tellC]
  have hXZ := Blk.new W4 29 [.int .i64 0, .int .i64 0, .int .i64 0, .int .i64 0, .int .i64 0, .int .i64 0, .string ByteArray.empty, .bool false, .int .i64 0, .int .i64 0, .slice none 0 0, .slice none 0 0, .bool false, .int .i64 0, .int .i64 0, .int .i64 0, .int .i64 0, .string ByteArray.empty]
  have hgX : W2.heap.size ≤ W4.heap.size := hb4.size
  have hW4a : Blk (W4.alloc (.cells #[.int .i64 0, .int .i64 0, .int .i64 0, .int .i64 0, .int .i64 0, .int .i64 0, .string ⟨#[]⟩, .bool false, .int .i64 0, .int .i64 0, .slice none 0 0, .slice none 0 0, .bool false, .int .i64 0, .int .i64 0, .int .i64 0, .int .i64 0, .string ⟨#[]⟩] 29)) W4.heap.size 29 [.int .i64 0, .int .i64 0, .int .i64 0, .int .i64 0, .int .i64 0, .int .i64 0, .string ByteArray.empty, .bool false, .int .i64 0, .int .i64 0, .slice none 0 0, .slice none 0 0, .bool false, .int .i64 0, .int .i64 0, .int .i64 0, .int .i64 0, .string ByteArray.empty] := hXZ
  obtain ⟨gX, hgXe⟩ : ∃ x, x = W4.heap.size := ⟨_, rfl⟩
  have hKs := keeps_setRow (W4.alloc (.cells #[.int .i64 0, .int .i64 0, .int .i64 0, .int .i64 0, .int .i64 0, .int .i64 0, .string ⟨#[]⟩, .bool false, .int .i64 0, .int .i64 0, .slice none 0 0, .slice none 0 0, .bool false, .int .i64 0, .int .i64 0, .int .i64 0, .int .i64 0, .string ⟨#[]⟩] 29)) (g := gX) #[.int .i64 x0, .int .i64 x1, .int .i64 x2, .int .i64 x3, .int .i64 x4, .int .i64 x5, .string (st xn), .bool xd, .int .i64 xv, .int .i64 xp, .slice Xq mq dq, .slice Xd md dd, .bool yd, .int .i64 yv, .int .i64 yp, .int .i64 x6, .int .i64 x7, .string (st xm)]
  have hbal : Below W4.heap.size W4 (W4.alloc (.cells #[.int .i64 0, .int .i64 0, .int .i64 0, .int .i64 0, .int .i64 0, .int .i64 0, .string ⟨#[]⟩, .bool false, .int .i64 0, .int .i64 0, .slice none 0 0, .slice none 0 0, .bool false, .int .i64 0, .int .i64 0, .int .i64 0, .int .i64 0, .string ⟨#[]⟩] 29)) := (Below.refl _ _).alloc (Nat.le_refl _) _
  have hbk : Below W4.heap.size W4 ((W4.alloc (.cells #[.int .i64 0, .int .i64 0, .int .i64 0, .int .i64 0, .int .i64 0, .int .i64 0, .string ⟨#[]⟩, .bool false, .int .i64 0, .int .i64 0, .slice none 0 0, .slice none 0 0, .bool false, .int .i64 0, .int .i64 0, .int .i64 0, .int .i64 0, .string ⟨#[]⟩] 29)).setRow gX #[.int .i64 x0, .int .i64 x1, .int .i64 x2, .int .i64 x3, .int .i64 x4, .int .i64 x5, .string (st xn), .bool xd, .int .i64 xv, .int .i64 xp, .slice Xq mq dq, .slice Xd md dd, .bool yd, .int .i64 yv, .int .i64 yp, .int .i64 x6, .int .i64 x7, .string (st xm)]) := hbal.trans (hKs.is (by omega) (by rw [hgXe]; simp))
  have hX5 : Blk ((W4.alloc (.cells #[.int .i64 0, .int .i64 0, .int .i64 0, .int .i64 0, .int .i64 0, .int .i64 0, .string ⟨#[]⟩, .bool false, .int .i64 0, .int .i64 0, .slice none 0 0, .slice none 0 0, .bool false, .int .i64 0, .int .i64 0, .int .i64 0, .int .i64 0, .string ⟨#[]⟩] 29)).setRow gX #[.int .i64 x0, .int .i64 x1, .int .i64 x2, .int .i64 x3, .int .i64 x4, .int .i64 x5, .string (st xn), .bool xd, .int .i64 xv, .int .i64 xp, .slice Xq mq dq, .slice Xd md dd, .bool yd, .int .i64 yv, .int .i64 yp, .int .i64 x6, .int .i64 x7, .string (st xm)]) gX 29 [.int .i64 x0, .int .i64 x1, .int .i64 x2, .int .i64 x3, .int .i64 x4, .int .i64 x5, .string (st xn), .bool xd, .int .i64 xv, .int .i64 xp, .slice Xq mq dq, .slice Xd md dd, .bool yd, .int .i64 yv, .int .i64 yp, .int .i64 x6, .int .i64 x7, .string (st xm)] := by
    rw [hgXe]; exact hW4a.setRow [.int .i64 x0, .int .i64 x1, .int .i64 x2, .int .i64 x3, .int .i64 x4, .int .i64 x5, .string (st xn), .bool xd, .int .i64 xv, .int .i64 xp, .slice Xq mq dq, .slice Xd md dd, .bool yd, .int .i64 yv, .int .i64 yp, .int .i64 x6, .int .i64 x7, .string (st xm)]
  have hZ5 := (HZ.out.up hb4).up hbk
  have hoq5 := hoq.up hbk
  have hod5 := hod.up hbk
  have hB5 := HB2.out.trans ((Up.trans hb4 hbk).mono (by omega : w.heap.size ≤ W2.heap.size))
  have hX5s : gX < ((W4.alloc (.cells #[.int .i64 0, .int .i64 0, .int .i64 0, .int .i64 0, .int .i64 0, .int .i64 0, .string ⟨#[]⟩, .bool false, .int .i64 0, .int .i64 0, .slice none 0 0, .slice none 0 0, .bool false, .int .i64 0, .int .i64 0, .int .i64 0, .int .i64 0, .string ⟨#[]⟩] 29)).setRow gX #[.int .i64 x0, .int .i64 x1, .int .i64 x2, .int .i64 x3, .int .i64 x4, .int .i64 x5, .string (st xn), .bool xd, .int .i64 xv, .int .i64 xp, .slice Xq mq dq, .slice Xd md dd, .bool yd, .int .i64 yv, .int .i64 yp, .int .i64 x6, .int .i64 x7, .string (st xm)]).heap.size := hX5.lt
  have HX5 := Lib.hid hX5
  have HZ5 := Lib.hid hZ5
  have HQ5 := Lib.hid hoq5
  have HD5 := Lib.hid hod5
  have HB5 := Lib.hid hB5
  have HGX := Lib.hid hgXe
  have gXZ : gX ≠ gZ := by omega
  have gXw : w.heap.size ≤ gX := by omega
  have gWX : W2.heap.size ≤ gX := by omega
  clear hXZ hKs hbal hbk hX5 hZ5 hoq hod hoq5 hod5 hB5 hb4 hgXe
  go_upto_region 2 with (refine wpList_storeBlk rfl (.tmp 9) (.tmp 11) rfl rfl [.int .i64 x0, .int .i64 x1, .int .i64 x2, .int .i64 x3, .int .i64 x4, .int .i64 x5, .string (st xn), .bool xd, .int .i64 xv, .int .i64 xp, .slice Xq mq dq, .slice Xd md dd, .bool yd, .int .i64 yv, .int .i64 yp, .int .i64 x6, .int .i64 x7, .string (st xm)] rfl rfl (by kernel_rfl) hW4a rfl (by simp [Value.oneCell']) ?_)
  rw [← HGX.out]
  generalize (W4.alloc (.cells #[.int .i64 0, .int .i64 0, .int .i64 0, .int .i64 0, .int .i64 0, .int .i64 0, .string ⟨#[]⟩, .bool false, .int .i64 0, .int .i64 0, .slice none 0 0, .slice none 0 0, .bool false, .int .i64 0, .int .i64 0, .int .i64 0, .int .i64 0, .string ⟨#[]⟩] 29)).setRow gX #[.int .i64 x0, .int .i64 x1, .int .i64 x2, .int .i64 x3, .int .i64 x4, .int .i64 x5, .string (st xn), .bool xd, .int .i64 xv, .int .i64 xp, .slice Xq mq dq, .slice Xd md dd, .bool yd, .int .i64 yv, .int .i64 yp, .int .i64 x6, .int .i64 x7, .string (st xm)] = W5 at HX5 HZ5 HQ5 HD5 HB5 hX5s ⊢
  clear hW4a
  have hnq := HQ5.out.len
  have hnd := HD5.out.len
  simp only [List.length_map] at hnq
  go_wp2_with fail
  refine (tAround_det which 14 _ hw.1 hw.2 (by omega) (by omega)).mono ?_
  rintro e w' ⟨rfl, rfl⟩
  rw [show up0 which % (14 : Nat) = 9 from hk]
  have ku := HX5.out.cell 15 _ rfl
  have kf := HX5.out.free 15
  have hX6 := HX5.out.set 15 (.int .i64 n)
  have hZ6 := HZ5.out.other (p := ⟨gX, 15, none⟩) gXZ (.int .i64 n)
  have hk6 : Keeps (Is gX) W5 (W5.setCell ⟨gX, 15, none⟩ (.int .i64 n)) := (Keeps.refl (Is gX) _).setCell (p := ⟨gX, 15, none⟩) (.inl rfl) _
  have hQ6 : OwR (W5.setCell ⟨gX, 15, none⟩ (.int .i64 n)) W2.heap.size 23 3 Xq mq dq (xq.map qidC) := OwR.farG HQ5.out HX5.out (by decide) hk6
  have hD6 : OwB (W5.setCell ⟨gX, 15, none⟩ (.int .i64 n)) W2.heap.size Xd md dd xl := OwB.farG HD5.out HX5.out (by decide) hk6
  have hB6 := HB5.out.trans (hk6.is gXw (Nat.le_of_lt hX5s))
  go_upto_region 30 with fail
  generalize W5.setCell ⟨gX, 15, none⟩ (.int .i64 n) = W6 at hX6 hZ6 hQ6 hD6 hB6 ⊢
  have HZ6 := Lib.hid hZ6
  have HQ6 := Lib.hid hQ6
  have HD6 := Lib.hid hD6
  have HB6 := Lib.hid hB6
  clear ku kf hk6 hZ6 hQ6 hD6 hB6
  have hl1 : xq.length ≤ 8 := hlens.1
  have hl2 : xl.length ≤ 30 := hlens.2.1
  have hl3 : xn.length ≤ 40 := hlens.2.2.1
  have hl4 : xm.length ≤ 40 := hlens.2.2.2
  have hpost : Keeps (Is gZ) W6 (W6.setRow gZ #[.int .i64 x0, .int .i64 x1, .int .i64 x2, .int .i64 x3, .int .i64 x4, .int .i64 x5, .string (st xn), .bool xd, .int .i64 xv, .int .i64 xp, .slice Xq mq dq, .slice Xd md dd, .bool yd, .int .i64 yv, .int .i64 yp, .int .i64 n, .int .i64 x7, .string (st xm)]) → OddPost w (.returned (.agg #[.int .i64 x0, .int .i64 x1, .int .i64 x2, .int .i64 x3, .int .i64 x4, .int .i64 x5, .string (st xn), .bool xd, .int .i64 xv, .int .i64 xp, .slice Xq mq dq, .slice Xd md dd, .bool yd, .int .i64 yv, .int .i64 yp, .int .i64 n, .int .i64 x7, .string (st xm)])) (W6.setRow gZ #[.int .i64 x0, .int .i64 x1, .int .i64 x2, .int .i64 x3, .int .i64 x4, .int .i64 x5, .string (st xn), .bool xd, .int .i64 xv, .int .i64 xp, .slice Xq mq dq, .slice Xd md dd, .bool yd, .int .i64 yv, .int .i64 yp, .int .i64 n, .int .i64 x7, .string (st xm)]) := by
    intro hKz
    refine ⟨⟨x0, x1, x2, x3, x4, x5, xn, ⟨xd, xv, xp⟩, xq, xl, ⟨yd, yv, yp⟩, n, x7, xm⟩, Xq, mq, dq, Xd, md, dd, rfl, ⟨?_, ?_, ?_, ?_, ?_, ?_⟩, below_setRow HB6.out (by omega) _⟩
    · exact OwR.rd (OwR.keeps HQ6.out hKz (fun k hk e => by have e' : k = gZ := e; omega))
    · exact OwB.rd (Own.keeps HD6.out hKz (fun k hk e => by have e' : k = gZ := e; omega))
    · omega
    · omega
    · first | exact Nat.le_trans hl3 (by omega) | exact Nat.le_trans hs3l (by omega)
    · first | exact Nat.le_trans hl4 (by omega) | exact Nat.le_trans hs3l (by omega)
  have HPOST := Lib.hid hpost
  clear hpost
  have hXf := hX6
  have hF := HZ6.out.setRow [.int .i64 x0, .int .i64 x1, .int .i64 x2, .int .i64 x3, .int .i64 x4, .int .i64 x5, .string (st xn), .bool xd, .int .i64 xv, .int .i64 xp, .slice Xq mq dq, .slice Xd md dd, .bool yd, .int .i64 yv, .int .i64 yp, .int .i64 n, .int .i64 x7, .string (st xm)]
  go_wp2_with first
    | (refine wpList_loadBlk rfl (.tmp 9) rfl rfl (by kernel_rfl) tellT_agg hXf ?_; simp only [Act.put, List.setIfInBounds_toArray, List.set_cons_succ, List.set_cons_zero])
    | (refine wpList_storeBlk rfl (.tmp 8) (.tmp 82) rfl rfl [.int .i64 x0, .int .i64 x1, .int .i64 x2, .int .i64 x3, .int .i64 x4, .int .i64 x5, .string (st xn), .bool xd, .int .i64 xv, .int .i64 xp, .slice Xq mq dq, .slice Xd md dd, .bool yd, .int .i64 yv, .int .i64 yp, .int .i64 n, .int .i64 x7, .string (st xm)] rfl rfl (by kernel_rfl) HZ6.out rfl (by simp [Value.oneCell']) ?_)
  have hKz := keeps_setRow W6 (g := gZ) #[.int .i64 x0, .int .i64 x1, .int .i64 x2, .int .i64 x3, .int .i64 x4, .int .i64 x5, .string (st xn), .bool xd, .int .i64 xv, .int .i64 xp, .slice Xq mq dq, .slice Xd md dd, .bool yd, .int .i64 yv, .int .i64 yp, .int .i64 n, .int .i64 x7, .string (st xm)]
  exact bodyPost_ret (v := .agg #[.int .i64 x0, .int .i64 x1, .int .i64 x2, .int .i64 x3, .int .i64 x4, .int .i64 x5, .string (st xn), .bool xd, .int .i64 xv, .int .i64 xp, .slice Xq mq dq, .slice Xd md dd, .bool yd, .int .i64 yv, .int .i64 yp, .int .i64 n, .int .i64 x7, .string (st xm)]) (results_cellBlk Try.results11 rfl hF (by kernel_rfl) tellT_agg) rfl (HPOST.out hKz)

set_option maxRecDepth 100000 in
set_option maxHeartbeats 4000000 in
theorem odd_10 (kind tag code msize iounit count : Int) (name : List UInt8) (qdir : Bool) (qver qpath : Int) (qids : List QidV) (data : List UInt8) (sdir : Bool) (sver spath smode ssize : Int) (sname : List UInt8) (Aq : Option Addr) (nq cq : Nat) (Ad : Option Addr) (nd cd : Nat) (which n : Int) (s : List UInt8) (w : World)
    (hok : TellOk w w.heap.size ⟨kind, tag, code, msize, iounit, count, name, ⟨qdir, qver, qpath⟩, qids, data, ⟨sdir, sver, spath⟩, smode, ssize, sname⟩ Aq nq cq Ad nd cd) (hw : I64 which) (hs : s.length ≤ 9223372036854775807) (hk : up0 which % 14 = 10) :
    Calls Try.prog 11 #[.agg #[.int .i64 kind, .int .i64 tag, .int .i64 code, .int .i64 msize, .int .i64 iounit, .int .i64 count, .string (st name), .bool qdir, .int .i64 qver, .int .i64 qpath, .slice Aq nq cq, .slice Ad nd cd, .bool sdir, .int .i64 sver, .int .i64 spath, .int .i64 smode, .int .i64 ssize, .string (st sname)], .int .i64 which, .int .i64 n, .string (st s)] w (OddPost w) := by
  have hA0 := Blk.new w 29 [.int .i64 kind, .int .i64 tag, .int .i64 code, .int .i64 msize, .int .i64 iounit, .int .i64 count, .string (st name), .bool qdir, .int .i64 qver, .int .i64 qpath, .slice Aq nq cq, .slice Ad nd cd, .bool sdir, .int .i64 sver, .int .i64 spath, .int .i64 smode, .int .i64 ssize, .string (st sname)]
  have hZ0 := Blk.new (w.alloc (.cells #[.int .i64 kind, .int .i64 tag, .int .i64 code, .int .i64 msize, .int .i64 iounit, .int .i64 count, .string (st name), .bool qdir, .int .i64 qver, .int .i64 qpath, .slice Aq nq cq, .slice Ad nd cd, .bool sdir, .int .i64 sver, .int .i64 spath, .int .i64 smode, .int .i64 ssize, .string (st sname)] 29)) 29 [.int .i64 0, .int .i64 0, .int .i64 0, .int .i64 0, .int .i64 0, .int .i64 0, .string ByteArray.empty, .bool false, .int .i64 0, .int .i64 0, .slice none 0 0, .slice none 0 0, .bool false, .int .i64 0, .int .i64 0, .int .i64 0, .int .i64 0, .string ByteArray.empty]
  obtain ⟨W2, hW2⟩ : ∃ x, x = (w.alloc (.cells #[.int .i64 kind, .int .i64 tag, .int .i64 code, .int .i64 msize, .int .i64 iounit, .int .i64 count, .string (st name), .bool qdir, .int .i64 qver, .int .i64 qpath, .slice Aq nq cq, .slice Ad nd cd, .bool sdir, .int .i64 sver, .int .i64 spath, .int .i64 smode, .int .i64 ssize, .string (st sname)] 29)).alloc (.cells #[.int .i64 0, .int .i64 0, .int .i64 0, .int .i64 0, .int .i64 0, .int .i64 0, .string ByteArray.empty, .bool false, .int .i64 0, .int .i64 0, .slice none 0 0, .slice none 0 0, .bool false, .int .i64 0, .int .i64 0, .int .i64 0, .int .i64 0, .string ByteArray.empty] 29) := ⟨_, rfl⟩
  have hA2 : Blk W2 w.heap.size 29 [.int .i64 kind, .int .i64 tag, .int .i64 code, .int .i64 msize, .int .i64 iounit, .int .i64 count, .string (st name), .bool qdir, .int .i64 qver, .int .i64 qpath, .slice Aq nq cq, .slice Ad nd cd, .bool sdir, .int .i64 sver, .int .i64 spath, .int .i64 smode, .int .i64 ssize, .string (st sname)] := by rw [hW2]; exact hA0.alloc _
  have hZ2 : Blk W2 (w.heap.size + 1) 29 [.int .i64 0, .int .i64 0, .int .i64 0, .int .i64 0, .int .i64 0, .int .i64 0, .string ByteArray.empty, .bool false, .int .i64 0, .int .i64 0, .slice none 0 0, .slice none 0 0, .bool false, .int .i64 0, .int .i64 0, .int .i64 0, .int .i64 0, .string ByteArray.empty] := by rw [hW2]; simpa using hZ0
  have hb2 : Below w.heap.size w W2 := by rw [hW2]; exact ((Below.refl _ _).alloc (Nat.le_refl _) _).alloc (by simp) _
  have hW3 : W2 = (w.alloc (.cells #[.int .i64 kind, .int .i64 tag, .int .i64 code, .int .i64 msize, .int .i64 iounit, .int .i64 count, .string (st name), .bool qdir, .int .i64 qver, .int .i64 qpath, .slice Aq nq cq, .slice Ad nd cd, .bool sdir, .int .i64 sver, .int .i64 spath, .int .i64 smode, .int .i64 ssize, .string (st sname)] 29)).alloc (.cells #[.int .i64 0, .int .i64 0, .int .i64 0, .int .i64 0, .int .i64 0, .int .i64 0, .string ⟨#[]⟩, .bool false, .int .i64 0, .int .i64 0, .slice none 0 0, .slice none 0 0, .bool false, .int .i64 0, .int .i64 0, .int .i64 0, .int .i64 0, .string ⟨#[]⟩] 29) := hW2
  obtain ⟨gZ, hgZ⟩ : ∃ x, x = w.heap.size + 1 := ⟨_, rfl⟩
  rw [← hgZ] at hZ2
  have gA_lt : w.heap.size < gZ := by omega
  have gZ_lt : gZ < W2.heap.size := hZ2.lt
  have HZ := Lib.hid hZ2
  have HB2 := Lib.hid hb2
  have GZ := Lib.hid hgZ
  have HOK2 := Lib.hid ((show TellOk W2 W2.heap.size _ Aq nq cq Ad nd cd from { (hok.up hb2) with qids := (hok.qids.below hb2).more hb2.size, data := (hok.data.below hb2).more hb2.size }))
  clear hA0 hZ0 hZ2 hb2 hW2 hgZ hok
  go_enter Try.func11, Try.ntmps11
  go_upto_region 1 with fail
  rw [← hW3, ← GZ.out]
  clear hW3
  go_wp2_with (refine wpList_loadBlk rfl (.tmp 4) rfl rfl (by kernel_rfl) tellT_agg hA2 ?_; simp only [Act.put, List.setIfInBounds_toArray, List.set_cons_succ, List.set_cons_zero])
  refine (goodT_any kind tag code msize iounit count name qdir qver qpath qids data sdir sver spath smode ssize sname Aq nq cq Ad nd cd _ HOK2.out).mono ?_
  rintro e W4 ⟨x, Xq, mq, dq, Xd, md, dd, hx, rfl, hoq, hod, hb4⟩
  have hlens := goodT_lens ⟨kind, tag, code, msize, iounit, count, name, ⟨qdir, qver, qpath⟩, qids, data, ⟨sdir, sver, spath⟩, smode, ssize, sname⟩
  rw [← hx.out] at hlens
  clear hx hA2
  obtain ⟨x0, x1, x2, x3, x4, x5, xn, ⟨xd, xv, xp⟩, xq, xl, ⟨yd, yv, yp⟩, x6, x7, xm⟩ := x
  simp only [tellC]
  have hXZ := Blk.new W4 29 [.int .i64 0, .int .i64 0, .int .i64 0, .int .i64 0, .int .i64 0, .int .i64 0, .string ByteArray.empty, .bool false, .int .i64 0, .int .i64 0, .slice none 0 0, .slice none 0 0, .bool false, .int .i64 0, .int .i64 0, .int .i64 0, .int .i64 0, .string ByteArray.empty]
  have hgX : W2.heap.size ≤ W4.heap.size := hb4.size
  have hW4a : Blk (W4.alloc (.cells #[.int .i64 0, .int .i64 0, .int .i64 0, .int .i64 0, .int .i64 0, .int .i64 0, .string ⟨#[]⟩, .bool false, .int .i64 0, .int .i64 0, .slice none 0 0, .slice none 0 0, .bool false, .int .i64 0, .int .i64 0, .int .i64 0, .int .i64 0, .string ⟨#[]⟩] 29)) W4.heap.size 29 [.int .i64 0, .int .i64 0, .int .i64 0, .int .i64 0, .int .i64 0, .int .i64 0, .string ByteArray.empty, .bool false, .int .i64 0, .int .i64 0, .slice none 0 0, .slice none 0 0, .bool false, .int .i64 0, .int .i64 0, .int .i64 0, .int .i64 0, .string ByteArray.empty] := hXZ
  obtain ⟨gX, hgXe⟩ : ∃ x, x = W4.heap.size := ⟨_, rfl⟩
  have hKs := keeps_setRow (W4.alloc (.cells #[.int .i64 0, .int .i64 0, .int .i64 0, .int .i64 0, .int .i64 0, .int .i64 0, .string ⟨#[]⟩, .bool false, .int .i64 0, .int .i64 0, .slice none 0 0, .slice none 0 0, .bool false, .int .i64 0, .int .i64 0, .int .i64 0, .int .i64 0, .string ⟨#[]⟩] 29)) (g := gX) #[.int .i64 x0, .int .i64 x1, .int .i64 x2, .int .i64 x3, .int .i64 x4, .int .i64 x5, .string (st xn), .bool xd, .int .i64 xv, .int .i64 xp, .slice Xq mq dq, .slice Xd md dd, .bool yd, .int .i64 yv, .int .i64 yp, .int .i64 x6, .int .i64 x7, .string (st xm)]
  have hbal : Below W4.heap.size W4 (W4.alloc (.cells #[.int .i64 0, .int .i64 0, .int .i64 0, .int .i64 0, .int .i64 0, .int .i64 0, .string ⟨#[]⟩, .bool false, .int .i64 0, .int .i64 0, .slice none 0 0, .slice none 0 0, .bool false, .int .i64 0, .int .i64 0, .int .i64 0, .int .i64 0, .string ⟨#[]⟩] 29)) := (Below.refl _ _).alloc (Nat.le_refl _) _
  have hbk : Below W4.heap.size W4 ((W4.alloc (.cells #[.int .i64 0, .int .i64 0, .int .i64 0, .int .i64 0, .int .i64 0, .int .i64 0, .string ⟨#[]⟩, .bool false, .int .i64 0, .int .i64 0, .slice none 0 0, .slice none 0 0, .bool false, .int .i64 0, .int .i64 0, .int .i64 0, .int .i64 0, .string ⟨#[]⟩] 29)).setRow gX #[.int .i64 x0, .int .i64 x1, .int .i64 x2, .int .i64 x3, .int .i64 x4, .int .i64 x5, .string (st xn), .bool xd, .int .i64 xv, .int .i64 xp, .slice Xq mq dq, .slice Xd md dd, .bool yd, .int .i64 yv, .int .i64 yp, .int .i64 x6, .int .i64 x7, .string (st xm)]) := hbal.trans (hKs.is (by omega) (by rw [hgXe]; simp))
  have hX5 : Blk ((W4.alloc (.cells #[.int .i64 0, .int .i64 0, .int .i64 0, .int .i64 0, .int .i64 0, .int .i64 0, .string ⟨#[]⟩, .bool false, .int .i64 0, .int .i64 0, .slice none 0 0, .slice none 0 0, .bool false, .int .i64 0, .int .i64 0, .int .i64 0, .int .i64 0, .string ⟨#[]⟩] 29)).setRow gX #[.int .i64 x0, .int .i64 x1, .int .i64 x2, .int .i64 x3, .int .i64 x4, .int .i64 x5, .string (st xn), .bool xd, .int .i64 xv, .int .i64 xp, .slice Xq mq dq, .slice Xd md dd, .bool yd, .int .i64 yv, .int .i64 yp, .int .i64 x6, .int .i64 x7, .string (st xm)]) gX 29 [.int .i64 x0, .int .i64 x1, .int .i64 x2, .int .i64 x3, .int .i64 x4, .int .i64 x5, .string (st xn), .bool xd, .int .i64 xv, .int .i64 xp, .slice Xq mq dq, .slice Xd md dd, .bool yd, .int .i64 yv, .int .i64 yp, .int .i64 x6, .int .i64 x7, .string (st xm)] := by
    rw [hgXe]; exact hW4a.setRow [.int .i64 x0, .int .i64 x1, .int .i64 x2, .int .i64 x3, .int .i64 x4, .int .i64 x5, .string (st xn), .bool xd, .int .i64 xv, .int .i64 xp, .slice Xq mq dq, .slice Xd md dd, .bool yd, .int .i64 yv, .int .i64 yp, .int .i64 x6, .int .i64 x7, .string (st xm)]
  have hZ5 := (HZ.out.up hb4).up hbk
  have hoq5 := hoq.up hbk
  have hod5 := hod.up hbk
  have hB5 := HB2.out.trans ((Up.trans hb4 hbk).mono (by omega : w.heap.size ≤ W2.heap.size))
  have hX5s : gX < ((W4.alloc (.cells #[.int .i64 0, .int .i64 0, .int .i64 0, .int .i64 0, .int .i64 0, .int .i64 0, .string ⟨#[]⟩, .bool false, .int .i64 0, .int .i64 0, .slice none 0 0, .slice none 0 0, .bool false, .int .i64 0, .int .i64 0, .int .i64 0, .int .i64 0, .string ⟨#[]⟩] 29)).setRow gX #[.int .i64 x0, .int .i64 x1, .int .i64 x2, .int .i64 x3, .int .i64 x4, .int .i64 x5, .string (st xn), .bool xd, .int .i64 xv, .int .i64 xp, .slice Xq mq dq, .slice Xd md dd, .bool yd, .int .i64 yv, .int .i64 yp, .int .i64 x6, .int .i64 x7, .string (st xm)]).heap.size := hX5.lt
  have HX5 := Lib.hid hX5
  have HZ5 := Lib.hid hZ5
  have HQ5 := Lib.hid hoq5
  have HD5 := Lib.hid hod5
  have HB5 := Lib.hid hB5
  have HGX := Lib.hid hgXe
  have gXZ : gX ≠ gZ := by omega
  have gXw : w.heap.size ≤ gX := by omega
  have gWX : W2.heap.size ≤ gX := by omega
  clear hXZ hKs hbal hbk hX5 hZ5 hoq hod hoq5 hod5 hB5 hb4 hgXe
  go_upto_region 2 with (refine wpList_storeBlk rfl (.tmp 9) (.tmp 11) rfl rfl [.int .i64 x0, .int .i64 x1, .int .i64 x2, .int .i64 x3, .int .i64 x4, .int .i64 x5, .string (st xn), .bool xd, .int .i64 xv, .int .i64 xp, .slice Xq mq dq, .slice Xd md dd, .bool yd, .int .i64 yv, .int .i64 yp, .int .i64 x6, .int .i64 x7, .string (st xm)] rfl rfl (by kernel_rfl) hW4a rfl (by simp [Value.oneCell']) ?_)
  rw [← HGX.out]
  generalize (W4.alloc (.cells #[.int .i64 0, .int .i64 0, .int .i64 0, .int .i64 0, .int .i64 0, .int .i64 0, .string ⟨#[]⟩, .bool false, .int .i64 0, .int .i64 0, .slice none 0 0, .slice none 0 0, .bool false, .int .i64 0, .int .i64 0, .int .i64 0, .int .i64 0, .string ⟨#[]⟩] 29)).setRow gX #[.int .i64 x0, .int .i64 x1, .int .i64 x2, .int .i64 x3, .int .i64 x4, .int .i64 x5, .string (st xn), .bool xd, .int .i64 xv, .int .i64 xp, .slice Xq mq dq, .slice Xd md dd, .bool yd, .int .i64 yv, .int .i64 yp, .int .i64 x6, .int .i64 x7, .string (st xm)] = W5 at HX5 HZ5 HQ5 HD5 HB5 hX5s ⊢
  clear hW4a
  have hnq := HQ5.out.len
  have hnd := HD5.out.len
  simp only [List.length_map] at hnq
  go_wp2_with fail
  refine (tAround_det which 14 _ hw.1 hw.2 (by omega) (by omega)).mono ?_
  rintro e w' ⟨rfl, rfl⟩
  rw [show up0 which % (14 : Nat) = 10 from hk]
  have ku := HX5.out.cell 16 _ rfl
  have kf := HX5.out.free 16
  have hX6 := HX5.out.set 16 (.int .i64 n)
  have hZ6 := HZ5.out.other (p := ⟨gX, 16, none⟩) gXZ (.int .i64 n)
  have hk6 : Keeps (Is gX) W5 (W5.setCell ⟨gX, 16, none⟩ (.int .i64 n)) := (Keeps.refl (Is gX) _).setCell (p := ⟨gX, 16, none⟩) (.inl rfl) _
  have hQ6 : OwR (W5.setCell ⟨gX, 16, none⟩ (.int .i64 n)) W2.heap.size 23 3 Xq mq dq (xq.map qidC) := OwR.farG HQ5.out HX5.out (by decide) hk6
  have hD6 : OwB (W5.setCell ⟨gX, 16, none⟩ (.int .i64 n)) W2.heap.size Xd md dd xl := OwB.farG HD5.out HX5.out (by decide) hk6
  have hB6 := HB5.out.trans (hk6.is gXw (Nat.le_of_lt hX5s))
  go_upto_region 30 with fail
  generalize W5.setCell ⟨gX, 16, none⟩ (.int .i64 n) = W6 at hX6 hZ6 hQ6 hD6 hB6 ⊢
  have HZ6 := Lib.hid hZ6
  have HQ6 := Lib.hid hQ6
  have HD6 := Lib.hid hD6
  have HB6 := Lib.hid hB6
  clear ku kf hk6 hZ6 hQ6 hD6 hB6
  have hl1 : xq.length ≤ 8 := hlens.1
  have hl2 : xl.length ≤ 30 := hlens.2.1
  have hl3 : xn.length ≤ 40 := hlens.2.2.1
  have hl4 : xm.length ≤ 40 := hlens.2.2.2
  have hpost : Keeps (Is gZ) W6 (W6.setRow gZ #[.int .i64 x0, .int .i64 x1, .int .i64 x2, .int .i64 x3, .int .i64 x4, .int .i64 x5, .string (st xn), .bool xd, .int .i64 xv, .int .i64 xp, .slice Xq mq dq, .slice Xd md dd, .bool yd, .int .i64 yv, .int .i64 yp, .int .i64 x6, .int .i64 n, .string (st xm)]) → OddPost w (.returned (.agg #[.int .i64 x0, .int .i64 x1, .int .i64 x2, .int .i64 x3, .int .i64 x4, .int .i64 x5, .string (st xn), .bool xd, .int .i64 xv, .int .i64 xp, .slice Xq mq dq, .slice Xd md dd, .bool yd, .int .i64 yv, .int .i64 yp, .int .i64 x6, .int .i64 n, .string (st xm)])) (W6.setRow gZ #[.int .i64 x0, .int .i64 x1, .int .i64 x2, .int .i64 x3, .int .i64 x4, .int .i64 x5, .string (st xn), .bool xd, .int .i64 xv, .int .i64 xp, .slice Xq mq dq, .slice Xd md dd, .bool yd, .int .i64 yv, .int .i64 yp, .int .i64 x6, .int .i64 n, .string (st xm)]) := by
    intro hKz
    refine ⟨⟨x0, x1, x2, x3, x4, x5, xn, ⟨xd, xv, xp⟩, xq, xl, ⟨yd, yv, yp⟩, x6, n, xm⟩, Xq, mq, dq, Xd, md, dd, rfl, ⟨?_, ?_, ?_, ?_, ?_, ?_⟩, below_setRow HB6.out (by omega) _⟩
    · exact OwR.rd (OwR.keeps HQ6.out hKz (fun k hk e => by have e' : k = gZ := e; omega))
    · exact OwB.rd (Own.keeps HD6.out hKz (fun k hk e => by have e' : k = gZ := e; omega))
    · omega
    · omega
    · first | exact Nat.le_trans hl3 (by omega) | exact Nat.le_trans hs3l (by omega)
    · first | exact Nat.le_trans hl4 (by omega) | exact Nat.le_trans hs3l (by omega)
  have HPOST := Lib.hid hpost
  clear hpost
  have hXf := hX6
  have hF := HZ6.out.setRow [.int .i64 x0, .int .i64 x1, .int .i64 x2, .int .i64 x3, .int .i64 x4, .int .i64 x5, .string (st xn), .bool xd, .int .i64 xv, .int .i64 xp, .slice Xq mq dq, .slice Xd md dd, .bool yd, .int .i64 yv, .int .i64 yp, .int .i64 x6, .int .i64 n, .string (st xm)]
  go_wp2_with first
    | (refine wpList_loadBlk rfl (.tmp 9) rfl rfl (by kernel_rfl) tellT_agg hXf ?_; simp only [Act.put, List.setIfInBounds_toArray, List.set_cons_succ, List.set_cons_zero])
    | (refine wpList_storeBlk rfl (.tmp 8) (.tmp 82) rfl rfl [.int .i64 x0, .int .i64 x1, .int .i64 x2, .int .i64 x3, .int .i64 x4, .int .i64 x5, .string (st xn), .bool xd, .int .i64 xv, .int .i64 xp, .slice Xq mq dq, .slice Xd md dd, .bool yd, .int .i64 yv, .int .i64 yp, .int .i64 x6, .int .i64 n, .string (st xm)] rfl rfl (by kernel_rfl) HZ6.out rfl (by simp [Value.oneCell']) ?_)
  have hKz := keeps_setRow W6 (g := gZ) #[.int .i64 x0, .int .i64 x1, .int .i64 x2, .int .i64 x3, .int .i64 x4, .int .i64 x5, .string (st xn), .bool xd, .int .i64 xv, .int .i64 xp, .slice Xq mq dq, .slice Xd md dd, .bool yd, .int .i64 yv, .int .i64 yp, .int .i64 x6, .int .i64 n, .string (st xm)]
  exact bodyPost_ret (v := .agg #[.int .i64 x0, .int .i64 x1, .int .i64 x2, .int .i64 x3, .int .i64 x4, .int .i64 x5, .string (st xn), .bool xd, .int .i64 xv, .int .i64 xp, .slice Xq mq dq, .slice Xd md dd, .bool yd, .int .i64 yv, .int .i64 yp, .int .i64 x6, .int .i64 n, .string (st xm)]) (results_cellBlk Try.results11 rfl hF (by kernel_rfl) tellT_agg) rfl (HPOST.out hKz)

set_option maxRecDepth 100000 in
set_option maxHeartbeats 4000000 in
theorem odd_11 (kind tag code msize iounit count : Int) (name : List UInt8) (qdir : Bool) (qver qpath : Int) (qids : List QidV) (data : List UInt8) (sdir : Bool) (sver spath smode ssize : Int) (sname : List UInt8) (Aq : Option Addr) (nq cq : Nat) (Ad : Option Addr) (nd cd : Nat) (which n : Int) (s : List UInt8) (w : World)
    (hok : TellOk w w.heap.size ⟨kind, tag, code, msize, iounit, count, name, ⟨qdir, qver, qpath⟩, qids, data, ⟨sdir, sver, spath⟩, smode, ssize, sname⟩ Aq nq cq Ad nd cd) (hw : I64 which) (hs : s.length ≤ 9223372036854775807) (hk : up0 which % 14 = 11) :
    Calls Try.prog 11 #[.agg #[.int .i64 kind, .int .i64 tag, .int .i64 code, .int .i64 msize, .int .i64 iounit, .int .i64 count, .string (st name), .bool qdir, .int .i64 qver, .int .i64 qpath, .slice Aq nq cq, .slice Ad nd cd, .bool sdir, .int .i64 sver, .int .i64 spath, .int .i64 smode, .int .i64 ssize, .string (st sname)], .int .i64 which, .int .i64 n, .string (st s)] w (OddPost w) := by
  have hA0 := Blk.new w 29 [.int .i64 kind, .int .i64 tag, .int .i64 code, .int .i64 msize, .int .i64 iounit, .int .i64 count, .string (st name), .bool qdir, .int .i64 qver, .int .i64 qpath, .slice Aq nq cq, .slice Ad nd cd, .bool sdir, .int .i64 sver, .int .i64 spath, .int .i64 smode, .int .i64 ssize, .string (st sname)]
  have hZ0 := Blk.new (w.alloc (.cells #[.int .i64 kind, .int .i64 tag, .int .i64 code, .int .i64 msize, .int .i64 iounit, .int .i64 count, .string (st name), .bool qdir, .int .i64 qver, .int .i64 qpath, .slice Aq nq cq, .slice Ad nd cd, .bool sdir, .int .i64 sver, .int .i64 spath, .int .i64 smode, .int .i64 ssize, .string (st sname)] 29)) 29 [.int .i64 0, .int .i64 0, .int .i64 0, .int .i64 0, .int .i64 0, .int .i64 0, .string ByteArray.empty, .bool false, .int .i64 0, .int .i64 0, .slice none 0 0, .slice none 0 0, .bool false, .int .i64 0, .int .i64 0, .int .i64 0, .int .i64 0, .string ByteArray.empty]
  obtain ⟨W2, hW2⟩ : ∃ x, x = (w.alloc (.cells #[.int .i64 kind, .int .i64 tag, .int .i64 code, .int .i64 msize, .int .i64 iounit, .int .i64 count, .string (st name), .bool qdir, .int .i64 qver, .int .i64 qpath, .slice Aq nq cq, .slice Ad nd cd, .bool sdir, .int .i64 sver, .int .i64 spath, .int .i64 smode, .int .i64 ssize, .string (st sname)] 29)).alloc (.cells #[.int .i64 0, .int .i64 0, .int .i64 0, .int .i64 0, .int .i64 0, .int .i64 0, .string ByteArray.empty, .bool false, .int .i64 0, .int .i64 0, .slice none 0 0, .slice none 0 0, .bool false, .int .i64 0, .int .i64 0, .int .i64 0, .int .i64 0, .string ByteArray.empty] 29) := ⟨_, rfl⟩
  have hA2 : Blk W2 w.heap.size 29 [.int .i64 kind, .int .i64 tag, .int .i64 code, .int .i64 msize, .int .i64 iounit, .int .i64 count, .string (st name), .bool qdir, .int .i64 qver, .int .i64 qpath, .slice Aq nq cq, .slice Ad nd cd, .bool sdir, .int .i64 sver, .int .i64 spath, .int .i64 smode, .int .i64 ssize, .string (st sname)] := by rw [hW2]; exact hA0.alloc _
  have hZ2 : Blk W2 (w.heap.size + 1) 29 [.int .i64 0, .int .i64 0, .int .i64 0, .int .i64 0, .int .i64 0, .int .i64 0, .string ByteArray.empty, .bool false, .int .i64 0, .int .i64 0, .slice none 0 0, .slice none 0 0, .bool false, .int .i64 0, .int .i64 0, .int .i64 0, .int .i64 0, .string ByteArray.empty] := by rw [hW2]; simpa using hZ0
  have hb2 : Below w.heap.size w W2 := by rw [hW2]; exact ((Below.refl _ _).alloc (Nat.le_refl _) _).alloc (by simp) _
  have hW3 : W2 = (w.alloc (.cells #[.int .i64 kind, .int .i64 tag, .int .i64 code, .int .i64 msize, .int .i64 iounit, .int .i64 count, .string (st name), .bool qdir, .int .i64 qver, .int .i64 qpath, .slice Aq nq cq, .slice Ad nd cd, .bool sdir, .int .i64 sver, .int .i64 spath, .int .i64 smode, .int .i64 ssize, .string (st sname)] 29)).alloc (.cells #[.int .i64 0, .int .i64 0, .int .i64 0, .int .i64 0, .int .i64 0, .int .i64 0, .string ⟨#[]⟩, .bool false, .int .i64 0, .int .i64 0, .slice none 0 0, .slice none 0 0, .bool false, .int .i64 0, .int .i64 0, .int .i64 0, .int .i64 0, .string ⟨#[]⟩] 29) := hW2
  obtain ⟨gZ, hgZ⟩ : ∃ x, x = w.heap.size + 1 := ⟨_, rfl⟩
  rw [← hgZ] at hZ2
  have gA_lt : w.heap.size < gZ := by omega
  have gZ_lt : gZ < W2.heap.size := hZ2.lt
  have HZ := Lib.hid hZ2
  have HB2 := Lib.hid hb2
  have GZ := Lib.hid hgZ
  have HOK2 := Lib.hid ((show TellOk W2 W2.heap.size _ Aq nq cq Ad nd cd from { (hok.up hb2) with qids := (hok.qids.below hb2).more hb2.size, data := (hok.data.below hb2).more hb2.size }))
  clear hA0 hZ0 hZ2 hb2 hW2 hgZ hok
  go_enter Try.func11, Try.ntmps11
  go_upto_region 1 with fail
  rw [← hW3, ← GZ.out]
  clear hW3
  go_wp2_with (refine wpList_loadBlk rfl (.tmp 4) rfl rfl (by kernel_rfl) tellT_agg hA2 ?_; simp only [Act.put, List.setIfInBounds_toArray, List.set_cons_succ, List.set_cons_zero])
  refine (goodT_any kind tag code msize iounit count name qdir qver qpath qids data sdir sver spath smode ssize sname Aq nq cq Ad nd cd _ HOK2.out).mono ?_
  rintro e W4 ⟨x, Xq, mq, dq, Xd, md, dd, hx, rfl, hoq, hod, hb4⟩
  have hlens := goodT_lens ⟨kind, tag, code, msize, iounit, count, name, ⟨qdir, qver, qpath⟩, qids, data, ⟨sdir, sver, spath⟩, smode, ssize, sname⟩
  rw [← hx.out] at hlens
  clear hx hA2
  obtain ⟨x0, x1, x2, x3, x4, x5, xn, ⟨xd, xv, xp⟩, xq, xl, ⟨yd, yv, yp⟩, x6, x7, xm⟩ := x
  simp only [tellC]
  have hXZ := Blk.new W4 29 [.int .i64 0, .int .i64 0, .int .i64 0, .int .i64 0, .int .i64 0, .int .i64 0, .string ByteArray.empty, .bool false, .int .i64 0, .int .i64 0, .slice none 0 0, .slice none 0 0, .bool false, .int .i64 0, .int .i64 0, .int .i64 0, .int .i64 0, .string ByteArray.empty]
  have hgX : W2.heap.size ≤ W4.heap.size := hb4.size
  have hW4a : Blk (W4.alloc (.cells #[.int .i64 0, .int .i64 0, .int .i64 0, .int .i64 0, .int .i64 0, .int .i64 0, .string ⟨#[]⟩, .bool false, .int .i64 0, .int .i64 0, .slice none 0 0, .slice none 0 0, .bool false, .int .i64 0, .int .i64 0, .int .i64 0, .int .i64 0, .string ⟨#[]⟩] 29)) W4.heap.size 29 [.int .i64 0, .int .i64 0, .int .i64 0, .int .i64 0, .int .i64 0, .int .i64 0, .string ByteArray.empty, .bool false, .int .i64 0, .int .i64 0, .slice none 0 0, .slice none 0 0, .bool false, .int .i64 0, .int .i64 0, .int .i64 0, .int .i64 0, .string ByteArray.empty] := hXZ
  obtain ⟨gX, hgXe⟩ : ∃ x, x = W4.heap.size := ⟨_, rfl⟩
  have hKs := keeps_setRow (W4.alloc (.cells #[.int .i64 0, .int .i64 0, .int .i64 0, .int .i64 0, .int .i64 0, .int .i64 0, .string ⟨#[]⟩, .bool false, .int .i64 0, .int .i64 0, .slice none 0 0, .slice none 0 0, .bool false, .int .i64 0, .int .i64 0, .int .i64 0, .int .i64 0, .string ⟨#[]⟩] 29)) (g := gX) #[.int .i64 x0, .int .i64 x1, .int .i64 x2, .int .i64 x3, .int .i64 x4, .int .i64 x5, .string (st xn), .bool xd, .int .i64 xv, .int .i64 xp, .slice Xq mq dq, .slice Xd md dd, .bool yd, .int .i64 yv, .int .i64 yp, .int .i64 x6, .int .i64 x7, .string (st xm)]
  have hbal : Below W4.heap.size W4 (W4.alloc (.cells #[.int .i64 0, .int .i64 0, .int .i64 0, .int .i64 0, .int .i64 0, .int .i64 0, .string ⟨#[]⟩, .bool false, .int .i64 0, .int .i64 0, .slice none 0 0, .slice none 0 0, .bool false, .int .i64 0, .int .i64 0, .int .i64 0, .int .i64 0, .string ⟨#[]⟩] 29)) := (Below.refl _ _).alloc (Nat.le_refl _) _
  have hbk : Below W4.heap.size W4 ((W4.alloc (.cells #[.int .i64 0, .int .i64 0, .int .i64 0, .int .i64 0, .int .i64 0, .int .i64 0, .string ⟨#[]⟩, .bool false, .int .i64 0, .int .i64 0, .slice none 0 0, .slice none 0 0, .bool false, .int .i64 0, .int .i64 0, .int .i64 0, .int .i64 0, .string ⟨#[]⟩] 29)).setRow gX #[.int .i64 x0, .int .i64 x1, .int .i64 x2, .int .i64 x3, .int .i64 x4, .int .i64 x5, .string (st xn), .bool xd, .int .i64 xv, .int .i64 xp, .slice Xq mq dq, .slice Xd md dd, .bool yd, .int .i64 yv, .int .i64 yp, .int .i64 x6, .int .i64 x7, .string (st xm)]) := hbal.trans (hKs.is (by omega) (by rw [hgXe]; simp))
  have hX5 : Blk ((W4.alloc (.cells #[.int .i64 0, .int .i64 0, .int .i64 0, .int .i64 0, .int .i64 0, .int .i64 0, .string ⟨#[]⟩, .bool false, .int .i64 0, .int .i64 0, .slice none 0 0, .slice none 0 0, .bool false, .int .i64 0, .int .i64 0, .int .i64 0, .int .i64 0, .string ⟨#[]⟩] 29)).setRow gX #[.int .i64 x0, .int .i64 x1, .int .i64 x2, .int .i64 x3, .int .i64 x4, .int .i64 x5, .string (st xn), .bool xd, .int .i64 xv, .int .i64 xp, .slice Xq mq dq, .slice Xd md dd, .bool yd, .int .i64 yv, .int .i64 yp, .int .i64 x6, .int .i64 x7, .string (st xm)]) gX 29 [.int .i64 x0, .int .i64 x1, .int .i64 x2, .int .i64 x3, .int .i64 x4, .int .i64 x5, .string (st xn), .bool xd, .int .i64 xv, .int .i64 xp, .slice Xq mq dq, .slice Xd md dd, .bool yd, .int .i64 yv, .int .i64 yp, .int .i64 x6, .int .i64 x7, .string (st xm)] := by
    rw [hgXe]; exact hW4a.setRow [.int .i64 x0, .int .i64 x1, .int .i64 x2, .int .i64 x3, .int .i64 x4, .int .i64 x5, .string (st xn), .bool xd, .int .i64 xv, .int .i64 xp, .slice Xq mq dq, .slice Xd md dd, .bool yd, .int .i64 yv, .int .i64 yp, .int .i64 x6, .int .i64 x7, .string (st xm)]
  have hZ5 := (HZ.out.up hb4).up hbk
  have hoq5 := hoq.up hbk
  have hod5 := hod.up hbk
  have hB5 := HB2.out.trans ((Up.trans hb4 hbk).mono (by omega : w.heap.size ≤ W2.heap.size))
  have hX5s : gX < ((W4.alloc (.cells #[.int .i64 0, .int .i64 0, .int .i64 0, .int .i64 0, .int .i64 0, .int .i64 0, .string ⟨#[]⟩, .bool false, .int .i64 0, .int .i64 0, .slice none 0 0, .slice none 0 0, .bool false, .int .i64 0, .int .i64 0, .int .i64 0, .int .i64 0, .string ⟨#[]⟩] 29)).setRow gX #[.int .i64 x0, .int .i64 x1, .int .i64 x2, .int .i64 x3, .int .i64 x4, .int .i64 x5, .string (st xn), .bool xd, .int .i64 xv, .int .i64 xp, .slice Xq mq dq, .slice Xd md dd, .bool yd, .int .i64 yv, .int .i64 yp, .int .i64 x6, .int .i64 x7, .string (st xm)]).heap.size := hX5.lt
  have HX5 := Lib.hid hX5
  have HZ5 := Lib.hid hZ5
  have HQ5 := Lib.hid hoq5
  have HD5 := Lib.hid hod5
  have HB5 := Lib.hid hB5
  have HGX := Lib.hid hgXe
  have gXZ : gX ≠ gZ := by omega
  have gXw : w.heap.size ≤ gX := by omega
  have gWX : W2.heap.size ≤ gX := by omega
  clear hXZ hKs hbal hbk hX5 hZ5 hoq hod hoq5 hod5 hB5 hb4 hgXe
  go_upto_region 2 with (refine wpList_storeBlk rfl (.tmp 9) (.tmp 11) rfl rfl [.int .i64 x0, .int .i64 x1, .int .i64 x2, .int .i64 x3, .int .i64 x4, .int .i64 x5, .string (st xn), .bool xd, .int .i64 xv, .int .i64 xp, .slice Xq mq dq, .slice Xd md dd, .bool yd, .int .i64 yv, .int .i64 yp, .int .i64 x6, .int .i64 x7, .string (st xm)] rfl rfl (by kernel_rfl) hW4a rfl (by simp [Value.oneCell']) ?_)
  rw [← HGX.out]
  generalize (W4.alloc (.cells #[.int .i64 0, .int .i64 0, .int .i64 0, .int .i64 0, .int .i64 0, .int .i64 0, .string ⟨#[]⟩, .bool false, .int .i64 0, .int .i64 0, .slice none 0 0, .slice none 0 0, .bool false, .int .i64 0, .int .i64 0, .int .i64 0, .int .i64 0, .string ⟨#[]⟩] 29)).setRow gX #[.int .i64 x0, .int .i64 x1, .int .i64 x2, .int .i64 x3, .int .i64 x4, .int .i64 x5, .string (st xn), .bool xd, .int .i64 xv, .int .i64 xp, .slice Xq mq dq, .slice Xd md dd, .bool yd, .int .i64 yv, .int .i64 yp, .int .i64 x6, .int .i64 x7, .string (st xm)] = W5 at HX5 HZ5 HQ5 HD5 HB5 hX5s ⊢
  clear hW4a
  have hnq := HQ5.out.len
  have hnd := HD5.out.len
  simp only [List.length_map] at hnq
  go_wp2_with fail
  refine (tAround_det which 14 _ hw.1 hw.2 (by omega) (by omega)).mono ?_
  rintro e w' ⟨rfl, rfl⟩
  rw [show up0 which % (14 : Nat) = 11 from hk]
  obtain ⟨s3, hs3⟩ : ∃ v, Hid (v = s.take 300) := ⟨_, Lib.hid rfl⟩
  have hs3l : s3.length ≤ 300 := by rw [hs3.out]; simp; omega
  go_wp2_with fail
  refine (show Calls Try.prog 29 #[.string (st s), .int .i64 300] W5 fun e w' => e = .returned (.string (st s3)) ∧ W5 = w' by rw [hs3.out]; exact tShort_any s 300 _ hs (by omega)).mono ?_
  rintro e w' ⟨rfl, rfl⟩
  have ku := HX5.out.cell 17 _ rfl
  have kf := HX5.out.free 17
  have hX6 := HX5.out.set 17 (.string (st s3))
  have hZ6 := HZ5.out.other (p := ⟨gX, 17, none⟩) gXZ (.string (st s3))
  have hk6 : Keeps (Is gX) W5 (W5.setCell ⟨gX, 17, none⟩ (.string (st s3))) := (Keeps.refl (Is gX) _).setCell (p := ⟨gX, 17, none⟩) (.inl rfl) _
  have hQ6 : OwR (W5.setCell ⟨gX, 17, none⟩ (.string (st s3))) W2.heap.size 23 3 Xq mq dq (xq.map qidC) := OwR.farG HQ5.out HX5.out (by decide) hk6
  have hD6 : OwB (W5.setCell ⟨gX, 17, none⟩ (.string (st s3))) W2.heap.size Xd md dd xl := OwB.farG HD5.out HX5.out (by decide) hk6
  have hB6 := HB5.out.trans (hk6.is gXw (Nat.le_of_lt hX5s))
  go_upto_region 30 with fail
  generalize W5.setCell ⟨gX, 17, none⟩ (.string (st s3)) = W6 at hX6 hZ6 hQ6 hD6 hB6 ⊢
  have HZ6 := Lib.hid hZ6
  have HQ6 := Lib.hid hQ6
  have HD6 := Lib.hid hD6
  have HB6 := Lib.hid hB6
  clear ku kf hk6 hZ6 hQ6 hD6 hB6
  have hl1 : xq.length ≤ 8 := hlens.1
  have hl2 : xl.length ≤ 30 := hlens.2.1
  have hl3 : xn.length ≤ 40 := hlens.2.2.1
  have hl4 : xm.length ≤ 40 := hlens.2.2.2
  have hpost : Keeps (Is gZ) W6 (W6.setRow gZ #[.int .i64 x0, .int .i64 x1, .int .i64 x2, .int .i64 x3, .int .i64 x4, .int .i64 x5, .string (st xn), .bool xd, .int .i64 xv, .int .i64 xp, .slice Xq mq dq, .slice Xd md dd, .bool yd, .int .i64 yv, .int .i64 yp, .int .i64 x6, .int .i64 x7, .string (st s3)]) → OddPost w (.returned (.agg #[.int .i64 x0, .int .i64 x1, .int .i64 x2, .int .i64 x3, .int .i64 x4, .int .i64 x5, .string (st xn), .bool xd, .int .i64 xv, .int .i64 xp, .slice Xq mq dq, .slice Xd md dd, .bool yd, .int .i64 yv, .int .i64 yp, .int .i64 x6, .int .i64 x7, .string (st s3)])) (W6.setRow gZ #[.int .i64 x0, .int .i64 x1, .int .i64 x2, .int .i64 x3, .int .i64 x4, .int .i64 x5, .string (st xn), .bool xd, .int .i64 xv, .int .i64 xp, .slice Xq mq dq, .slice Xd md dd, .bool yd, .int .i64 yv, .int .i64 yp, .int .i64 x6, .int .i64 x7, .string (st s3)]) := by
    intro hKz
    refine ⟨⟨x0, x1, x2, x3, x4, x5, xn, ⟨xd, xv, xp⟩, xq, xl, ⟨yd, yv, yp⟩, x6, x7, s3⟩, Xq, mq, dq, Xd, md, dd, rfl, ⟨?_, ?_, ?_, ?_, ?_, ?_⟩, below_setRow HB6.out (by omega) _⟩
    · exact OwR.rd (OwR.keeps HQ6.out hKz (fun k hk e => by have e' : k = gZ := e; omega))
    · exact OwB.rd (Own.keeps HD6.out hKz (fun k hk e => by have e' : k = gZ := e; omega))
    · omega
    · omega
    · first | exact Nat.le_trans hl3 (by omega) | exact Nat.le_trans hs3l (by omega)
    · first | exact Nat.le_trans hl4 (by omega) | exact Nat.le_trans hs3l (by omega)
  have HPOST := Lib.hid hpost
  clear hpost
  have hXf := hX6
  have hF := HZ6.out.setRow [.int .i64 x0, .int .i64 x1, .int .i64 x2, .int .i64 x3, .int .i64 x4, .int .i64 x5, .string (st xn), .bool xd, .int .i64 xv, .int .i64 xp, .slice Xq mq dq, .slice Xd md dd, .bool yd, .int .i64 yv, .int .i64 yp, .int .i64 x6, .int .i64 x7, .string (st s3)]
  go_wp2_with first
    | (refine wpList_loadBlk rfl (.tmp 9) rfl rfl (by kernel_rfl) tellT_agg hXf ?_; simp only [Act.put, List.setIfInBounds_toArray, List.set_cons_succ, List.set_cons_zero])
    | (refine wpList_storeBlk rfl (.tmp 8) (.tmp 82) rfl rfl [.int .i64 x0, .int .i64 x1, .int .i64 x2, .int .i64 x3, .int .i64 x4, .int .i64 x5, .string (st xn), .bool xd, .int .i64 xv, .int .i64 xp, .slice Xq mq dq, .slice Xd md dd, .bool yd, .int .i64 yv, .int .i64 yp, .int .i64 x6, .int .i64 x7, .string (st s3)] rfl rfl (by kernel_rfl) HZ6.out rfl (by simp [Value.oneCell']) ?_)
  have hKz := keeps_setRow W6 (g := gZ) #[.int .i64 x0, .int .i64 x1, .int .i64 x2, .int .i64 x3, .int .i64 x4, .int .i64 x5, .string (st xn), .bool xd, .int .i64 xv, .int .i64 xp, .slice Xq mq dq, .slice Xd md dd, .bool yd, .int .i64 yv, .int .i64 yp, .int .i64 x6, .int .i64 x7, .string (st s3)]
  exact bodyPost_ret (v := .agg #[.int .i64 x0, .int .i64 x1, .int .i64 x2, .int .i64 x3, .int .i64 x4, .int .i64 x5, .string (st xn), .bool xd, .int .i64 xv, .int .i64 xp, .slice Xq mq dq, .slice Xd md dd, .bool yd, .int .i64 yv, .int .i64 yp, .int .i64 x6, .int .i64 x7, .string (st s3)]) (results_cellBlk Try.results11 rfl hF (by kernel_rfl) tellT_agg) rfl (HPOST.out hKz)

set_option maxRecDepth 100000 in
set_option maxHeartbeats 4000000 in
theorem odd_12 (kind tag code msize iounit count : Int) (name : List UInt8) (qdir : Bool) (qver qpath : Int) (qids : List QidV) (data : List UInt8) (sdir : Bool) (sver spath smode ssize : Int) (sname : List UInt8) (Aq : Option Addr) (nq cq : Nat) (Ad : Option Addr) (nd cd : Nat) (which n : Int) (s : List UInt8) (w : World)
    (hok : TellOk w w.heap.size ⟨kind, tag, code, msize, iounit, count, name, ⟨qdir, qver, qpath⟩, qids, data, ⟨sdir, sver, spath⟩, smode, ssize, sname⟩ Aq nq cq Ad nd cd) (hw : I64 which) (hs : s.length ≤ 9223372036854775807) (hk : up0 which % 14 = 12) :
    Calls Try.prog 11 #[.agg #[.int .i64 kind, .int .i64 tag, .int .i64 code, .int .i64 msize, .int .i64 iounit, .int .i64 count, .string (st name), .bool qdir, .int .i64 qver, .int .i64 qpath, .slice Aq nq cq, .slice Ad nd cd, .bool sdir, .int .i64 sver, .int .i64 spath, .int .i64 smode, .int .i64 ssize, .string (st sname)], .int .i64 which, .int .i64 n, .string (st s)] w (OddPost w) := by
  have hA0 := Blk.new w 29 [.int .i64 kind, .int .i64 tag, .int .i64 code, .int .i64 msize, .int .i64 iounit, .int .i64 count, .string (st name), .bool qdir, .int .i64 qver, .int .i64 qpath, .slice Aq nq cq, .slice Ad nd cd, .bool sdir, .int .i64 sver, .int .i64 spath, .int .i64 smode, .int .i64 ssize, .string (st sname)]
  have hZ0 := Blk.new (w.alloc (.cells #[.int .i64 kind, .int .i64 tag, .int .i64 code, .int .i64 msize, .int .i64 iounit, .int .i64 count, .string (st name), .bool qdir, .int .i64 qver, .int .i64 qpath, .slice Aq nq cq, .slice Ad nd cd, .bool sdir, .int .i64 sver, .int .i64 spath, .int .i64 smode, .int .i64 ssize, .string (st sname)] 29)) 29 [.int .i64 0, .int .i64 0, .int .i64 0, .int .i64 0, .int .i64 0, .int .i64 0, .string ByteArray.empty, .bool false, .int .i64 0, .int .i64 0, .slice none 0 0, .slice none 0 0, .bool false, .int .i64 0, .int .i64 0, .int .i64 0, .int .i64 0, .string ByteArray.empty]
  obtain ⟨W2, hW2⟩ : ∃ x, x = (w.alloc (.cells #[.int .i64 kind, .int .i64 tag, .int .i64 code, .int .i64 msize, .int .i64 iounit, .int .i64 count, .string (st name), .bool qdir, .int .i64 qver, .int .i64 qpath, .slice Aq nq cq, .slice Ad nd cd, .bool sdir, .int .i64 sver, .int .i64 spath, .int .i64 smode, .int .i64 ssize, .string (st sname)] 29)).alloc (.cells #[.int .i64 0, .int .i64 0, .int .i64 0, .int .i64 0, .int .i64 0, .int .i64 0, .string ByteArray.empty, .bool false, .int .i64 0, .int .i64 0, .slice none 0 0, .slice none 0 0, .bool false, .int .i64 0, .int .i64 0, .int .i64 0, .int .i64 0, .string ByteArray.empty] 29) := ⟨_, rfl⟩
  have hA2 : Blk W2 w.heap.size 29 [.int .i64 kind, .int .i64 tag, .int .i64 code, .int .i64 msize, .int .i64 iounit, .int .i64 count, .string (st name), .bool qdir, .int .i64 qver, .int .i64 qpath, .slice Aq nq cq, .slice Ad nd cd, .bool sdir, .int .i64 sver, .int .i64 spath, .int .i64 smode, .int .i64 ssize, .string (st sname)] := by rw [hW2]; exact hA0.alloc _
  have hZ2 : Blk W2 (w.heap.size + 1) 29 [.int .i64 0, .int .i64 0, .int .i64 0, .int .i64 0, .int .i64 0, .int .i64 0, .string ByteArray.empty, .bool false, .int .i64 0, .int .i64 0, .slice none 0 0, .slice none 0 0, .bool false, .int .i64 0, .int .i64 0, .int .i64 0, .int .i64 0, .string ByteArray.empty] := by rw [hW2]; simpa using hZ0
  have hb2 : Below w.heap.size w W2 := by rw [hW2]; exact ((Below.refl _ _).alloc (Nat.le_refl _) _).alloc (by simp) _
  have hW3 : W2 = (w.alloc (.cells #[.int .i64 kind, .int .i64 tag, .int .i64 code, .int .i64 msize, .int .i64 iounit, .int .i64 count, .string (st name), .bool qdir, .int .i64 qver, .int .i64 qpath, .slice Aq nq cq, .slice Ad nd cd, .bool sdir, .int .i64 sver, .int .i64 spath, .int .i64 smode, .int .i64 ssize, .string (st sname)] 29)).alloc (.cells #[.int .i64 0, .int .i64 0, .int .i64 0, .int .i64 0, .int .i64 0, .int .i64 0, .string ⟨#[]⟩, .bool false, .int .i64 0, .int .i64 0, .slice none 0 0, .slice none 0 0, .bool false, .int .i64 0, .int .i64 0, .int .i64 0, .int .i64 0, .string ⟨#[]⟩] 29) := hW2
  obtain ⟨gZ, hgZ⟩ : ∃ x, x = w.heap.size + 1 := ⟨_, rfl⟩
  rw [← hgZ] at hZ2
  have gA_lt : w.heap.size < gZ := by omega
  have gZ_lt : gZ < W2.heap.size := hZ2.lt
  have HZ := Lib.hid hZ2
  have HB2 := Lib.hid hb2
  have GZ := Lib.hid hgZ
  have HOK2 := Lib.hid ((show TellOk W2 W2.heap.size _ Aq nq cq Ad nd cd from { (hok.up hb2) with qids := (hok.qids.below hb2).more hb2.size, data := (hok.data.below hb2).more hb2.size }))
  clear hA0 hZ0 hZ2 hb2 hW2 hgZ hok
  go_enter Try.func11, Try.ntmps11
  go_upto_region 1 with fail
  rw [← hW3, ← GZ.out]
  clear hW3
  go_wp2_with (refine wpList_loadBlk rfl (.tmp 4) rfl rfl (by kernel_rfl) tellT_agg hA2 ?_; simp only [Act.put, List.setIfInBounds_toArray, List.set_cons_succ, List.set_cons_zero])
  refine (goodT_any kind tag code msize iounit count name qdir qver qpath qids data sdir sver spath smode ssize sname Aq nq cq Ad nd cd _ HOK2.out).mono ?_
  rintro e W4 ⟨x, Xq, mq, dq, Xd, md, dd, hx, rfl, hoq, hod, hb4⟩
  have hlens := goodT_lens ⟨kind, tag, code, msize, iounit, count, name, ⟨qdir, qver, qpath⟩, qids, data, ⟨sdir, sver, spath⟩, smode, ssize, sname⟩
  rw [← hx.out] at hlens
  clear hx hA2
  obtain ⟨x0, x1, x2, x3, x4, x5, xn, ⟨xd, xv, xp⟩, xq, xl, ⟨yd, yv, yp⟩, x6, x7, xm⟩ := x
  simp only [tellC]
  have hXZ := Blk.new W4 29 [.int .i64 0, .int .i64 0, .int .i64 0, .int .i64 0, .int .i64 0, .int .i64 0, .string ByteArray.empty, .bool false, .int .i64 0, .int .i64 0, .slice none 0 0, .slice none 0 0, .bool false, .int .i64 0, .int .i64 0, .int .i64 0, .int .i64 0, .string ByteArray.empty]
  have hgX : W2.heap.size ≤ W4.heap.size := hb4.size
  have hW4a : Blk (W4.alloc (.cells #[.int .i64 0, .int .i64 0, .int .i64 0, .int .i64 0, .int .i64 0, .int .i64 0, .string ⟨#[]⟩, .bool false, .int .i64 0, .int .i64 0, .slice none 0 0, .slice none 0 0, .bool false, .int .i64 0, .int .i64 0, .int .i64 0, .int .i64 0, .string ⟨#[]⟩] 29)) W4.heap.size 29 [.int .i64 0, .int .i64 0, .int .i64 0, .int .i64 0, .int .i64 0, .int .i64 0, .string ByteArray.empty, .bool false, .int .i64 0, .int .i64 0, .slice none 0 0, .slice none 0 0, .bool false, .int .i64 0, .int .i64 0, .int .i64 0, .int .i64 0, .string ByteArray.empty] := hXZ
  obtain ⟨gX, hgXe⟩ : ∃ x, x = W4.heap.size := ⟨_, rfl⟩
  have hKs := keeps_setRow (W4.alloc (.cells #[.int .i64 0, .int .i64 0, .int .i64 0, .int .i64 0, .int .i64 0, .int .i64 0, .string ⟨#[]⟩, .bool false, .int .i64 0, .int .i64 0, .slice none 0 0, .slice none 0 0, .bool false, .int .i64 0, .int .i64 0, .int .i64 0, .int .i64 0, .string ⟨#[]⟩] 29)) (g := gX) #[.int .i64 x0, .int .i64 x1, .int .i64 x2, .int .i64 x3, .int .i64 x4, .int .i64 x5, .string (st xn), .bool xd, .int .i64 xv, .int .i64 xp, .slice Xq mq dq, .slice Xd md dd, .bool yd, .int .i64 yv, .int .i64 yp, .int .i64 x6, .int .i64 x7, .string (st xm)]
  have hbal : Below W4.heap.size W4 (W4.alloc (.cells #[.int .i64 0, .int .i64 0, .int .i64 0, .int .i64 0, .int .i64 0, .int .i64 0, .string ⟨#[]⟩, .bool false, .int .i64 0, .int .i64 0, .slice none 0 0, .slice none 0 0, .bool false, .int .i64 0, .int .i64 0, .int .i64 0, .int .i64 0, .string ⟨#[]⟩] 29)) := (Below.refl _ _).alloc (Nat.le_refl _) _
  have hbk : Below W4.heap.size W4 ((W4.alloc (.cells #[.int .i64 0, .int .i64 0, .int .i64 0, .int .i64 0, .int .i64 0, .int .i64 0, .string ⟨#[]⟩, .bool false, .int .i64 0, .int .i64 0, .slice none 0 0, .slice none 0 0, .bool false, .int .i64 0, .int .i64 0, .int .i64 0, .int .i64 0, .string ⟨#[]⟩] 29)).setRow gX #[.int .i64 x0, .int .i64 x1, .int .i64 x2, .int .i64 x3, .int .i64 x4, .int .i64 x5, .string (st xn), .bool xd, .int .i64 xv, .int .i64 xp, .slice Xq mq dq, .slice Xd md dd, .bool yd, .int .i64 yv, .int .i64 yp, .int .i64 x6, .int .i64 x7, .string (st xm)]) := hbal.trans (hKs.is (by omega) (by rw [hgXe]; simp))
  have hX5 : Blk ((W4.alloc (.cells #[.int .i64 0, .int .i64 0, .int .i64 0, .int .i64 0, .int .i64 0, .int .i64 0, .string ⟨#[]⟩, .bool false, .int .i64 0, .int .i64 0, .slice none 0 0, .slice none 0 0, .bool false, .int .i64 0, .int .i64 0, .int .i64 0, .int .i64 0, .string ⟨#[]⟩] 29)).setRow gX #[.int .i64 x0, .int .i64 x1, .int .i64 x2, .int .i64 x3, .int .i64 x4, .int .i64 x5, .string (st xn), .bool xd, .int .i64 xv, .int .i64 xp, .slice Xq mq dq, .slice Xd md dd, .bool yd, .int .i64 yv, .int .i64 yp, .int .i64 x6, .int .i64 x7, .string (st xm)]) gX 29 [.int .i64 x0, .int .i64 x1, .int .i64 x2, .int .i64 x3, .int .i64 x4, .int .i64 x5, .string (st xn), .bool xd, .int .i64 xv, .int .i64 xp, .slice Xq mq dq, .slice Xd md dd, .bool yd, .int .i64 yv, .int .i64 yp, .int .i64 x6, .int .i64 x7, .string (st xm)] := by
    rw [hgXe]; exact hW4a.setRow [.int .i64 x0, .int .i64 x1, .int .i64 x2, .int .i64 x3, .int .i64 x4, .int .i64 x5, .string (st xn), .bool xd, .int .i64 xv, .int .i64 xp, .slice Xq mq dq, .slice Xd md dd, .bool yd, .int .i64 yv, .int .i64 yp, .int .i64 x6, .int .i64 x7, .string (st xm)]
  have hZ5 := (HZ.out.up hb4).up hbk
  have hoq5 := hoq.up hbk
  have hod5 := hod.up hbk
  have hB5 := HB2.out.trans ((Up.trans hb4 hbk).mono (by omega : w.heap.size ≤ W2.heap.size))
  have hX5s : gX < ((W4.alloc (.cells #[.int .i64 0, .int .i64 0, .int .i64 0, .int .i64 0, .int .i64 0, .int .i64 0, .string ⟨#[]⟩, .bool false, .int .i64 0, .int .i64 0, .slice none 0 0, .slice none 0 0, .bool false, .int .i64 0, .int .i64 0, .int .i64 0, .int .i64 0, .string ⟨#[]⟩] 29)).setRow gX #[.int .i64 x0, .int .i64 x1, .int .i64 x2, .int .i64 x3, .int .i64 x4, .int .i64 x5, .string (st xn), .bool xd, .int .i64 xv, .int .i64 xp, .slice Xq mq dq, .slice Xd md dd, .bool yd, .int .i64 yv, .int .i64 yp, .int .i64 x6, .int .i64 x7, .string (st xm)]).heap.size := hX5.lt
  have HX5 := Lib.hid hX5
  have HZ5 := Lib.hid hZ5
  have HQ5 := Lib.hid hoq5
  have HD5 := Lib.hid hod5
  have HB5 := Lib.hid hB5
  have HGX := Lib.hid hgXe
  have gXZ : gX ≠ gZ := by omega
  have gXw : w.heap.size ≤ gX := by omega
  have gWX : W2.heap.size ≤ gX := by omega
  clear hXZ hKs hbal hbk hX5 hZ5 hoq hod hoq5 hod5 hB5 hb4 hgXe
  go_upto_region 2 with (refine wpList_storeBlk rfl (.tmp 9) (.tmp 11) rfl rfl [.int .i64 x0, .int .i64 x1, .int .i64 x2, .int .i64 x3, .int .i64 x4, .int .i64 x5, .string (st xn), .bool xd, .int .i64 xv, .int .i64 xp, .slice Xq mq dq, .slice Xd md dd, .bool yd, .int .i64 yv, .int .i64 yp, .int .i64 x6, .int .i64 x7, .string (st xm)] rfl rfl (by kernel_rfl) hW4a rfl (by simp [Value.oneCell']) ?_)
  rw [← HGX.out]
  generalize (W4.alloc (.cells #[.int .i64 0, .int .i64 0, .int .i64 0, .int .i64 0, .int .i64 0, .int .i64 0, .string ⟨#[]⟩, .bool false, .int .i64 0, .int .i64 0, .slice none 0 0, .slice none 0 0, .bool false, .int .i64 0, .int .i64 0, .int .i64 0, .int .i64 0, .string ⟨#[]⟩] 29)).setRow gX #[.int .i64 x0, .int .i64 x1, .int .i64 x2, .int .i64 x3, .int .i64 x4, .int .i64 x5, .string (st xn), .bool xd, .int .i64 xv, .int .i64 xp, .slice Xq mq dq, .slice Xd md dd, .bool yd, .int .i64 yv, .int .i64 yp, .int .i64 x6, .int .i64 x7, .string (st xm)] = W5 at HX5 HZ5 HQ5 HD5 HB5 hX5s ⊢
  clear hW4a
  have hnq := HQ5.out.len
  have hnd := HD5.out.len
  simp only [List.length_map] at hnq
  go_wp2_with fail
  refine (tAround_det which 14 _ hw.1 hw.2 (by omega) (by omega)).mono ?_
  rintro e w' ⟨rfl, rfl⟩
  rw [show up0 which % (14 : Nat) = 12 from hk]
  have ku := HX5.out.cell 14 _ rfl
  have kf := HX5.out.free 14
  have hX6 := HX5.out.set 14 (.int .i64 n)
  have hZ6 := HZ5.out.other (p := ⟨gX, 14, none⟩) gXZ (.int .i64 n)
  have hk6 : Keeps (Is gX) W5 (W5.setCell ⟨gX, 14, none⟩ (.int .i64 n)) := (Keeps.refl (Is gX) _).setCell (p := ⟨gX, 14, none⟩) (.inl rfl) _
  have hQ6 : OwR (W5.setCell ⟨gX, 14, none⟩ (.int .i64 n)) W2.heap.size 23 3 Xq mq dq (xq.map qidC) := OwR.farG HQ5.out HX5.out (by decide) hk6
  have hD6 : OwB (W5.setCell ⟨gX, 14, none⟩ (.int .i64 n)) W2.heap.size Xd md dd xl := OwB.farG HD5.out HX5.out (by decide) hk6
  have hB6 := HB5.out.trans (hk6.is gXw (Nat.le_of_lt hX5s))
  go_upto_region 30 with fail
  generalize W5.setCell ⟨gX, 14, none⟩ (.int .i64 n) = W6 at hX6 hZ6 hQ6 hD6 hB6 ⊢
  have HZ6 := Lib.hid hZ6
  have HQ6 := Lib.hid hQ6
  have HD6 := Lib.hid hD6
  have HB6 := Lib.hid hB6
  clear ku kf hk6 hZ6 hQ6 hD6 hB6
  have hl1 : xq.length ≤ 8 := hlens.1
  have hl2 : xl.length ≤ 30 := hlens.2.1
  have hl3 : xn.length ≤ 40 := hlens.2.2.1
  have hl4 : xm.length ≤ 40 := hlens.2.2.2
  have hpost : Keeps (Is gZ) W6 (W6.setRow gZ #[.int .i64 x0, .int .i64 x1, .int .i64 x2, .int .i64 x3, .int .i64 x4, .int .i64 x5, .string (st xn), .bool xd, .int .i64 xv, .int .i64 xp, .slice Xq mq dq, .slice Xd md dd, .bool yd, .int .i64 yv, .int .i64 n, .int .i64 x6, .int .i64 x7, .string (st xm)]) → OddPost w (.returned (.agg #[.int .i64 x0, .int .i64 x1, .int .i64 x2, .int .i64 x3, .int .i64 x4, .int .i64 x5, .string (st xn), .bool xd, .int .i64 xv, .int .i64 xp, .slice Xq mq dq, .slice Xd md dd, .bool yd, .int .i64 yv, .int .i64 n, .int .i64 x6, .int .i64 x7, .string (st xm)])) (W6.setRow gZ #[.int .i64 x0, .int .i64 x1, .int .i64 x2, .int .i64 x3, .int .i64 x4, .int .i64 x5, .string (st xn), .bool xd, .int .i64 xv, .int .i64 xp, .slice Xq mq dq, .slice Xd md dd, .bool yd, .int .i64 yv, .int .i64 n, .int .i64 x6, .int .i64 x7, .string (st xm)]) := by
    intro hKz
    refine ⟨⟨x0, x1, x2, x3, x4, x5, xn, ⟨xd, xv, xp⟩, xq, xl, ⟨yd, yv, n⟩, x6, x7, xm⟩, Xq, mq, dq, Xd, md, dd, rfl, ⟨?_, ?_, ?_, ?_, ?_, ?_⟩, below_setRow HB6.out (by omega) _⟩
    · exact OwR.rd (OwR.keeps HQ6.out hKz (fun k hk e => by have e' : k = gZ := e; omega))
    · exact OwB.rd (Own.keeps HD6.out hKz (fun k hk e => by have e' : k = gZ := e; omega))
    · omega
    · omega
    · first | exact Nat.le_trans hl3 (by omega) | exact Nat.le_trans hs3l (by omega)
    · first | exact Nat.le_trans hl4 (by omega) | exact Nat.le_trans hs3l (by omega)
  have HPOST := Lib.hid hpost
  clear hpost
  have hXf := hX6
  have hF := HZ6.out.setRow [.int .i64 x0, .int .i64 x1, .int .i64 x2, .int .i64 x3, .int .i64 x4, .int .i64 x5, .string (st xn), .bool xd, .int .i64 xv, .int .i64 xp, .slice Xq mq dq, .slice Xd md dd, .bool yd, .int .i64 yv, .int .i64 n, .int .i64 x6, .int .i64 x7, .string (st xm)]
  go_wp2_with first
    | (refine wpList_loadBlk rfl (.tmp 9) rfl rfl (by kernel_rfl) tellT_agg hXf ?_; simp only [Act.put, List.setIfInBounds_toArray, List.set_cons_succ, List.set_cons_zero])
    | (refine wpList_storeBlk rfl (.tmp 8) (.tmp 82) rfl rfl [.int .i64 x0, .int .i64 x1, .int .i64 x2, .int .i64 x3, .int .i64 x4, .int .i64 x5, .string (st xn), .bool xd, .int .i64 xv, .int .i64 xp, .slice Xq mq dq, .slice Xd md dd, .bool yd, .int .i64 yv, .int .i64 n, .int .i64 x6, .int .i64 x7, .string (st xm)] rfl rfl (by kernel_rfl) HZ6.out rfl (by simp [Value.oneCell']) ?_)
  have hKz := keeps_setRow W6 (g := gZ) #[.int .i64 x0, .int .i64 x1, .int .i64 x2, .int .i64 x3, .int .i64 x4, .int .i64 x5, .string (st xn), .bool xd, .int .i64 xv, .int .i64 xp, .slice Xq mq dq, .slice Xd md dd, .bool yd, .int .i64 yv, .int .i64 n, .int .i64 x6, .int .i64 x7, .string (st xm)]
  exact bodyPost_ret (v := .agg #[.int .i64 x0, .int .i64 x1, .int .i64 x2, .int .i64 x3, .int .i64 x4, .int .i64 x5, .string (st xn), .bool xd, .int .i64 xv, .int .i64 xp, .slice Xq mq dq, .slice Xd md dd, .bool yd, .int .i64 yv, .int .i64 n, .int .i64 x6, .int .i64 x7, .string (st xm)]) (results_cellBlk Try.results11 rfl hF (by kernel_rfl) tellT_agg) rfl (HPOST.out hKz)

set_option maxRecDepth 100000 in
set_option maxHeartbeats 4000000 in
theorem odd_13 (kind tag code msize iounit count : Int) (name : List UInt8) (qdir : Bool) (qver qpath : Int) (qids : List QidV) (data : List UInt8) (sdir : Bool) (sver spath smode ssize : Int) (sname : List UInt8) (Aq : Option Addr) (nq cq : Nat) (Ad : Option Addr) (nd cd : Nat) (which n : Int) (s : List UInt8) (w : World)
    (hok : TellOk w w.heap.size ⟨kind, tag, code, msize, iounit, count, name, ⟨qdir, qver, qpath⟩, qids, data, ⟨sdir, sver, spath⟩, smode, ssize, sname⟩ Aq nq cq Ad nd cd) (hw : I64 which) (hs : s.length ≤ 9223372036854775807) (hk : up0 which % 14 = 13) :
    Calls Try.prog 11 #[.agg #[.int .i64 kind, .int .i64 tag, .int .i64 code, .int .i64 msize, .int .i64 iounit, .int .i64 count, .string (st name), .bool qdir, .int .i64 qver, .int .i64 qpath, .slice Aq nq cq, .slice Ad nd cd, .bool sdir, .int .i64 sver, .int .i64 spath, .int .i64 smode, .int .i64 ssize, .string (st sname)], .int .i64 which, .int .i64 n, .string (st s)] w (OddPost w) := by
  have hA0 := Blk.new w 29 [.int .i64 kind, .int .i64 tag, .int .i64 code, .int .i64 msize, .int .i64 iounit, .int .i64 count, .string (st name), .bool qdir, .int .i64 qver, .int .i64 qpath, .slice Aq nq cq, .slice Ad nd cd, .bool sdir, .int .i64 sver, .int .i64 spath, .int .i64 smode, .int .i64 ssize, .string (st sname)]
  have hZ0 := Blk.new (w.alloc (.cells #[.int .i64 kind, .int .i64 tag, .int .i64 code, .int .i64 msize, .int .i64 iounit, .int .i64 count, .string (st name), .bool qdir, .int .i64 qver, .int .i64 qpath, .slice Aq nq cq, .slice Ad nd cd, .bool sdir, .int .i64 sver, .int .i64 spath, .int .i64 smode, .int .i64 ssize, .string (st sname)] 29)) 29 [.int .i64 0, .int .i64 0, .int .i64 0, .int .i64 0, .int .i64 0, .int .i64 0, .string ByteArray.empty, .bool false, .int .i64 0, .int .i64 0, .slice none 0 0, .slice none 0 0, .bool false, .int .i64 0, .int .i64 0, .int .i64 0, .int .i64 0, .string ByteArray.empty]
  obtain ⟨W2, hW2⟩ : ∃ x, x = (w.alloc (.cells #[.int .i64 kind, .int .i64 tag, .int .i64 code, .int .i64 msize, .int .i64 iounit, .int .i64 count, .string (st name), .bool qdir, .int .i64 qver, .int .i64 qpath, .slice Aq nq cq, .slice Ad nd cd, .bool sdir, .int .i64 sver, .int .i64 spath, .int .i64 smode, .int .i64 ssize, .string (st sname)] 29)).alloc (.cells #[.int .i64 0, .int .i64 0, .int .i64 0, .int .i64 0, .int .i64 0, .int .i64 0, .string ByteArray.empty, .bool false, .int .i64 0, .int .i64 0, .slice none 0 0, .slice none 0 0, .bool false, .int .i64 0, .int .i64 0, .int .i64 0, .int .i64 0, .string ByteArray.empty] 29) := ⟨_, rfl⟩
  have hA2 : Blk W2 w.heap.size 29 [.int .i64 kind, .int .i64 tag, .int .i64 code, .int .i64 msize, .int .i64 iounit, .int .i64 count, .string (st name), .bool qdir, .int .i64 qver, .int .i64 qpath, .slice Aq nq cq, .slice Ad nd cd, .bool sdir, .int .i64 sver, .int .i64 spath, .int .i64 smode, .int .i64 ssize, .string (st sname)] := by rw [hW2]; exact hA0.alloc _
  have hZ2 : Blk W2 (w.heap.size + 1) 29 [.int .i64 0, .int .i64 0, .int .i64 0, .int .i64 0, .int .i64 0, .int .i64 0, .string ByteArray.empty, .bool false, .int .i64 0, .int .i64 0, .slice none 0 0, .slice none 0 0, .bool false, .int .i64 0, .int .i64 0, .int .i64 0, .int .i64 0, .string ByteArray.empty] := by rw [hW2]; simpa using hZ0
  have hb2 : Below w.heap.size w W2 := by rw [hW2]; exact ((Below.refl _ _).alloc (Nat.le_refl _) _).alloc (by simp) _
  have hW3 : W2 = (w.alloc (.cells #[.int .i64 kind, .int .i64 tag, .int .i64 code, .int .i64 msize, .int .i64 iounit, .int .i64 count, .string (st name), .bool qdir, .int .i64 qver, .int .i64 qpath, .slice Aq nq cq, .slice Ad nd cd, .bool sdir, .int .i64 sver, .int .i64 spath, .int .i64 smode, .int .i64 ssize, .string (st sname)] 29)).alloc (.cells #[.int .i64 0, .int .i64 0, .int .i64 0, .int .i64 0, .int .i64 0, .int .i64 0, .string ⟨#[]⟩, .bool false, .int .i64 0, .int .i64 0, .slice none 0 0, .slice none 0 0, .bool false, .int .i64 0, .int .i64 0, .int .i64 0, .int .i64 0, .string ⟨#[]⟩] 29) := hW2
  obtain ⟨gZ, hgZ⟩ : ∃ x, x = w.heap.size + 1 := ⟨_, rfl⟩
  rw [← hgZ] at hZ2
  have gA_lt : w.heap.size < gZ := by omega
  have gZ_lt : gZ < W2.heap.size := hZ2.lt
  have HZ := Lib.hid hZ2
  have HB2 := Lib.hid hb2
  have GZ := Lib.hid hgZ
  have HOK2 := Lib.hid ((show TellOk W2 W2.heap.size _ Aq nq cq Ad nd cd from { (hok.up hb2) with qids := (hok.qids.below hb2).more hb2.size, data := (hok.data.below hb2).more hb2.size }))
  clear hA0 hZ0 hZ2 hb2 hW2 hgZ hok
  go_enter Try.func11, Try.ntmps11
  go_upto_region 1 with fail
  rw [← hW3, ← GZ.out]
  clear hW3
  go_wp2_with (refine wpList_loadBlk rfl (.tmp 4) rfl rfl (by kernel_rfl) tellT_agg hA2 ?_; simp only [Act.put, List.setIfInBounds_toArray, List.set_cons_succ, List.set_cons_zero])
  refine (goodT_any kind tag code msize iounit count name qdir qver qpath qids data sdir sver spath smode ssize sname Aq nq cq Ad nd cd _ HOK2.out).mono ?_
  rintro e W4 ⟨x, Xq, mq, dq, Xd, md, dd, hx, rfl, hoq, hod, hb4⟩
  have hlens := goodT_lens ⟨kind, tag, code, msize, iounit, count, name, ⟨qdir, qver, qpath⟩, qids, data, ⟨sdir, sver, spath⟩, smode, ssize, sname⟩
  rw [← hx.out] at hlens
  clear hx hA2
  obtain ⟨x0, x1, x2, x3, x4, x5, xn, ⟨xd, xv, xp⟩, xq, xl, ⟨yd, yv, yp⟩, x6, x7, xm⟩ := x
  simp only [tellC]
  have hXZ := Blk.new W4 29 [.int .i64 0, .int .i64 0, .int .i64 0, .int .i64 0, .int .i64 0, .int .i64 0, .string ByteArray.empty, .bool false, .int .i64 0, .int .i64 0, .slice none 0 0, .slice none 0 0, .bool false, .int .i64 0, .int .i64 0, .int .i64 0, .int .i64 0, .string ByteArray.empty]
  have hgX : W2.heap.size ≤ W4.heap.size := hb4.size
  have hW4a : Blk (W4.alloc (.cells #[.int .i64 0, .int .i64 0, .int .i64 0, .int .i64 0, .int .i64 0, .int .i64 0, .string ⟨#[]⟩, .bool false, .int .i64 0, .int .i64 0, .slice none 0 0, .slice none 0 0, .bool false, .int .i64 0, .int .i64 0, .int .i64 0, .int .i64 0, .string ⟨#[]⟩] 29)) W4.heap.size 29 [.int .i64 0, .int .i64 0, .int .i64 0, .int .i64 0, .int .i64 0, .int .i64 0, .string ByteArray.empty, .bool false, .int .i64 0, .int .i64 0, .slice none 0 0, .slice none 0 0, .bool false, .int .i64 0, .int .i64 0, .int .i64 0, .int .i64 0, .string ByteArray.empty] := hXZ
  obtain ⟨gX, hgXe⟩ : ∃ x, x = W4.heap.size := ⟨_, rfl⟩
  have hKs := keeps_setRow (W4.alloc (.cells #[.int .i64 0, .int .i64 0, .int .i64 0, .int .i64 0, .int .i64 0, .int .i64 0, .string ⟨#[]⟩, .bool false, .int .i64 0, .int .i64 0, .slice none 0 0, .slice none 0 0, .bool false, .int .i64 0, .int .i64 0, .int .i64 0, .int .i64 0, .string ⟨#[]⟩] 29)) (g := gX) #[.int .i64 x0, .int .i64 x1, .int .i64 x2, .int .i64 x3, .int .i64 x4, .int .i64 x5, .string (st xn), .bool xd, .int .i64 xv, .int .i64 xp, .slice Xq mq dq, .slice Xd md dd, .bool yd, .int .i64 yv, .int .i64 yp, .int .i64 x6, .int .i64 x7, .string (st xm)]
  have hbal : Below W4.heap.size W4 (W4.alloc (.cells #[.int .i64 0, .int .i64 0, .int .i64 0, .int .i64 0, .int .i64 0, .int .i64 0, .string ⟨#[]⟩, .bool false, .int .i64 0, .int .i64 0, .slice none 0 0, .slice none 0 0, .bool false, .int .i64 0, .int .i64 0, .int .i64 0, .int .i64 0, .string ⟨#[]⟩] 29)) := (Below.refl _ _).alloc (Nat.le_refl _) _
  have hbk : Below W4.heap.size W4 ((W4.alloc (.cells #[.int .i64 0, .int .i64 0, .int .i64 0, .int .i64 0, .int .i64 0, .int .i64 0, .string ⟨#[]⟩, .bool false, .int .i64 0, .int .i64 0, .slice none 0 0, .slice none 0 0, .bool false, .int .i64 0, .int .i64 0, .int .i64 0, .int .i64 0, .string ⟨#[]⟩] 29)).setRow gX #[.int .i64 x0, .int .i64 x1, .int .i64 x2, .int .i64 x3, .int .i64 x4, .int .i64 x5, .string (st xn), .bool xd, .int .i64 xv, .int .i64 xp, .slice Xq mq dq, .slice Xd md dd, .bool yd, .int .i64 yv, .int .i64 yp, .int .i64 x6, .int .i64 x7, .string (st xm)]) := hbal.trans (hKs.is (by omega) (by rw [hgXe]; simp))
  have hX5 : Blk ((W4.alloc (.cells #[.int .i64 0, .int .i64 0, .int .i64 0, .int .i64 0, .int .i64 0, .int .i64 0, .string ⟨#[]⟩, .bool false, .int .i64 0, .int .i64 0, .slice none 0 0, .slice none 0 0, .bool false, .int .i64 0, .int .i64 0, .int .i64 0, .int .i64 0, .string ⟨#[]⟩] 29)).setRow gX #[.int .i64 x0, .int .i64 x1, .int .i64 x2, .int .i64 x3, .int .i64 x4, .int .i64 x5, .string (st xn), .bool xd, .int .i64 xv, .int .i64 xp, .slice Xq mq dq, .slice Xd md dd, .bool yd, .int .i64 yv, .int .i64 yp, .int .i64 x6, .int .i64 x7, .string (st xm)]) gX 29 [.int .i64 x0, .int .i64 x1, .int .i64 x2, .int .i64 x3, .int .i64 x4, .int .i64 x5, .string (st xn), .bool xd, .int .i64 xv, .int .i64 xp, .slice Xq mq dq, .slice Xd md dd, .bool yd, .int .i64 yv, .int .i64 yp, .int .i64 x6, .int .i64 x7, .string (st xm)] := by
    rw [hgXe]; exact hW4a.setRow [.int .i64 x0, .int .i64 x1, .int .i64 x2, .int .i64 x3, .int .i64 x4, .int .i64 x5, .string (st xn), .bool xd, .int .i64 xv, .int .i64 xp, .slice Xq mq dq, .slice Xd md dd, .bool yd, .int .i64 yv, .int .i64 yp, .int .i64 x6, .int .i64 x7, .string (st xm)]
  have hZ5 := (HZ.out.up hb4).up hbk
  have hoq5 := hoq.up hbk
  have hod5 := hod.up hbk
  have hB5 := HB2.out.trans ((Up.trans hb4 hbk).mono (by omega : w.heap.size ≤ W2.heap.size))
  have hX5s : gX < ((W4.alloc (.cells #[.int .i64 0, .int .i64 0, .int .i64 0, .int .i64 0, .int .i64 0, .int .i64 0, .string ⟨#[]⟩, .bool false, .int .i64 0, .int .i64 0, .slice none 0 0, .slice none 0 0, .bool false, .int .i64 0, .int .i64 0, .int .i64 0, .int .i64 0, .string ⟨#[]⟩] 29)).setRow gX #[.int .i64 x0, .int .i64 x1, .int .i64 x2, .int .i64 x3, .int .i64 x4, .int .i64 x5, .string (st xn), .bool xd, .int .i64 xv, .int .i64 xp, .slice Xq mq dq, .slice Xd md dd, .bool yd, .int .i64 yv, .int .i64 yp, .int .i64 x6, .int .i64 x7, .string (st xm)]).heap.size := hX5.lt
  have HX5 := Lib.hid hX5
  have HZ5 := Lib.hid hZ5
  have HQ5 := Lib.hid hoq5
  have HD5 := Lib.hid hod5
  have HB5 := Lib.hid hB5
  have HGX := Lib.hid hgXe
  have gXZ : gX ≠ gZ := by omega
  have gXw : w.heap.size ≤ gX := by omega
  have gWX : W2.heap.size ≤ gX := by omega
  clear hXZ hKs hbal hbk hX5 hZ5 hoq hod hoq5 hod5 hB5 hb4 hgXe
  go_upto_region 2 with (refine wpList_storeBlk rfl (.tmp 9) (.tmp 11) rfl rfl [.int .i64 x0, .int .i64 x1, .int .i64 x2, .int .i64 x3, .int .i64 x4, .int .i64 x5, .string (st xn), .bool xd, .int .i64 xv, .int .i64 xp, .slice Xq mq dq, .slice Xd md dd, .bool yd, .int .i64 yv, .int .i64 yp, .int .i64 x6, .int .i64 x7, .string (st xm)] rfl rfl (by kernel_rfl) hW4a rfl (by simp [Value.oneCell']) ?_)
  rw [← HGX.out]
  generalize (W4.alloc (.cells #[.int .i64 0, .int .i64 0, .int .i64 0, .int .i64 0, .int .i64 0, .int .i64 0, .string ⟨#[]⟩, .bool false, .int .i64 0, .int .i64 0, .slice none 0 0, .slice none 0 0, .bool false, .int .i64 0, .int .i64 0, .int .i64 0, .int .i64 0, .string ⟨#[]⟩] 29)).setRow gX #[.int .i64 x0, .int .i64 x1, .int .i64 x2, .int .i64 x3, .int .i64 x4, .int .i64 x5, .string (st xn), .bool xd, .int .i64 xv, .int .i64 xp, .slice Xq mq dq, .slice Xd md dd, .bool yd, .int .i64 yv, .int .i64 yp, .int .i64 x6, .int .i64 x7, .string (st xm)] = W5 at HX5 HZ5 HQ5 HD5 HB5 hX5s ⊢
  clear hW4a
  have hnq := HQ5.out.len
  have hnd := HD5.out.len
  simp only [List.length_map] at hnq
  go_wp2_with fail
  refine (tAround_det which 14 _ hw.1 hw.2 (by omega) (by omega)).mono ?_
  rintro e w' ⟨rfl, rfl⟩
  rw [show up0 which % (14 : Nat) = 13 from hk]
  have kx := HX5.out.cell 10 _ rfl
  have Hsrc := Lib.hid (Src.oneR (P := Try.prog) W5 24 23 Try.underlying24 [.bool false, .int .i64 n, .int .i64 0] rfl (by simp [Value.oneCell']) #[.bool false, .int .i64 n, .int .i64 0] rfl 23)
  have hga : W2.heap.size ≤ (W5.alloc (.cells #[.bool false, .int .i64 n, .int .i64 0] 23)).heap.size := by simp; omega
  have hq8 : mq ≤ 8 := by have h : xq.length ≤ 8 := hlens.1; omega
  go_upto_region 30 with (at_builtin; go_must (refine wpList_appendR qidsElemS rfl (.tmp 15) (.tmp 18) 24 rfl W2.heap.size Xq mq dq (xq.map qidC) rfl (HQ5.out.alloc _) _ rfl [.bool false, .int .i64 n, .int .i64 0] rfl Hsrc.out (by omega) (by omega) hga ?_); intro A3 n3 c3 l3 W5b hl3 hn3 hown3 hb3 hg3; obtain rfl : n3 = mq + 1 := hn3.out; have hX5b := blk_grown HQ5.out HX5.out (by decide) hg3; have ku := hX5b.cell 10 _ rfl; have kf := hX5b.free 10)
  obtain rfl : l3 = (xq ++ [(⟨false, n, 0⟩ : QidV)]).map qidC := by rw [hl3.out, List.map_append]; rfl
  have hZ5b := blk_grown HQ5.out HZ5.out (by decide) hg3
  have hD5b : OwB W5b W2.heap.size Xd md dd xl := Own.kept (HD5.out.alloc _) hg3 (own_two (HD5.out.alloc (.cells #[.bool false, .int .i64 n, .int .i64 0] 23)) (HQ5.out.alloc (.cells #[.bool false, .int .i64 n, .int .i64 0] 23)).2.2 (by decide))
  have hB5b := (HB5.out.alloc (Nat.le_trans gXw (Nat.le_of_lt hX5s)) (.cells #[.bool false, .int .i64 n, .int .i64 0] 23)).trans (hb3.mono (by omega : w.heap.size ≤ W2.heap.size))
  have hX5bs : gX < W5b.heap.size := hX5b.lt
  clear kx
  have hX6 := hX5b.set 10 (.slice A3 (mq + 1) c3)
  have hZ6 := hZ5b.other (p := ⟨gX, 10, none⟩) gXZ (.slice A3 (mq + 1) c3)
  have hk6 : Keeps (Is gX) W5b (W5b.setCell ⟨gX, 10, none⟩ (.slice A3 (mq + 1) c3)) := (Keeps.refl (Is gX) _).setCell (p := ⟨gX, 10, none⟩) (.inl rfl) _
  have hQ6 : OwR (W5b.setCell ⟨gX, 10, none⟩ (.slice A3 (mq + 1) c3)) W2.heap.size 23 3 A3 (mq + 1) c3 ((xq ++ [(⟨false, n, 0⟩ : QidV)]).map qidC) := OwR.farG hown3 hX5b (by decide) hk6
  have hD6 : OwB (W5b.setCell ⟨gX, 10, none⟩ (.slice A3 (mq + 1) c3)) W2.heap.size Xd md dd xl := OwB.farG hD5b hX5b (by decide) hk6
  have hB6 := hB5b.trans (hk6.is gXw (Nat.le_of_lt hX5bs))
  have hZ6l := hZ6.lt
  clear hX5b hZ5b hD5b hB5b hown3 hb3 hg3 Hsrc
  generalize W5b.setCell ⟨gX, 10, none⟩ (.slice A3 (mq + 1) c3) = W6 at hX6 hZ6 hQ6 hD6 hB6 hZ6l ⊢
  have HZ6 := Lib.hid hZ6
  have HQ6 := Lib.hid hQ6
  have HD6 := Lib.hid hD6
  have HB6 := Lib.hid hB6
  clear ku kf hk6 hZ6 hQ6 hD6 hB6
  have hl1 : xq.length ≤ 8 := hlens.1
  have hl2 : xl.length ≤ 30 := hlens.2.1
  have hl3 : xn.length ≤ 40 := hlens.2.2.1
  have hl4 : xm.length ≤ 40 := hlens.2.2.2
  have hpost : Keeps (Is gZ) W6 (W6.setRow gZ #[.int .i64 x0, .int .i64 x1, .int .i64 x2, .int .i64 x3, .int .i64 x4, .int .i64 x5, .string (st xn), .bool xd, .int .i64 xv, .int .i64 xp, .slice A3 (mq + 1) c3, .slice Xd md dd, .bool yd, .int .i64 yv, .int .i64 yp, .int .i64 x6, .int .i64 x7, .string (st xm)]) → OddPost w (.returned (.agg #[.int .i64 x0, .int .i64 x1, .int .i64 x2, .int .i64 x3, .int .i64 x4, .int .i64 x5, .string (st xn), .bool xd, .int .i64 xv, .int .i64 xp, .slice A3 (mq + 1) c3, .slice Xd md dd, .bool yd, .int .i64 yv, .int .i64 yp, .int .i64 x6, .int .i64 x7, .string (st xm)])) (W6.setRow gZ #[.int .i64 x0, .int .i64 x1, .int .i64 x2, .int .i64 x3, .int .i64 x4, .int .i64 x5, .string (st xn), .bool xd, .int .i64 xv, .int .i64 xp, .slice A3 (mq + 1) c3, .slice Xd md dd, .bool yd, .int .i64 yv, .int .i64 yp, .int .i64 x6, .int .i64 x7, .string (st xm)]) := by
    intro hKz
    refine ⟨⟨x0, x1, x2, x3, x4, x5, xn, ⟨xd, xv, xp⟩, xq ++ [⟨false, n, 0⟩], xl, ⟨yd, yv, yp⟩, x6, x7, xm⟩, A3, mq + 1, c3, Xd, md, dd, rfl, ⟨?_, ?_, ?_, ?_, ?_, ?_⟩, below_setRow HB6.out (by omega) _⟩
    · exact OwR.rd (OwR.keeps HQ6.out hKz (fun k hk e => by have e' : k = gZ := e; omega))
    · exact OwB.rd (Own.keeps HD6.out hKz (fun k hk e => by have e' : k = gZ := e; omega))
    · omega
    · omega
    · first | exact Nat.le_trans hl3 (by omega) | exact Nat.le_trans hs3l (by omega)
    · first | exact Nat.le_trans hl4 (by omega) | exact Nat.le_trans hs3l (by omega)
  have HPOST := Lib.hid hpost
  clear hpost
  have hXf := hX6
  have hF := HZ6.out.setRow [.int .i64 x0, .int .i64 x1, .int .i64 x2, .int .i64 x3, .int .i64 x4, .int .i64 x5, .string (st xn), .bool xd, .int .i64 xv, .int .i64 xp, .slice A3 (mq + 1) c3, .slice Xd md dd, .bool yd, .int .i64 yv, .int .i64 yp, .int .i64 x6, .int .i64 x7, .string (st xm)]
  go_wp2_with first
    | (refine wpList_loadBlk rfl (.tmp 9) rfl rfl (by kernel_rfl) tellT_agg hXf ?_; simp only [Act.put, List.setIfInBounds_toArray, List.set_cons_succ, List.set_cons_zero])
    | (refine wpList_storeBlk rfl (.tmp 8) (.tmp 82) rfl rfl [.int .i64 x0, .int .i64 x1, .int .i64 x2, .int .i64 x3, .int .i64 x4, .int .i64 x5, .string (st xn), .bool xd, .int .i64 xv, .int .i64 xp, .slice A3 (mq + 1) c3, .slice Xd md dd, .bool yd, .int .i64 yv, .int .i64 yp, .int .i64 x6, .int .i64 x7, .string (st xm)] rfl rfl (by kernel_rfl) HZ6.out rfl (by simp [Value.oneCell']) ?_)
  have hKz := keeps_setRow W6 (g := gZ) #[.int .i64 x0, .int .i64 x1, .int .i64 x2, .int .i64 x3, .int .i64 x4, .int .i64 x5, .string (st xn), .bool xd, .int .i64 xv, .int .i64 xp, .slice A3 (mq + 1) c3, .slice Xd md dd, .bool yd, .int .i64 yv, .int .i64 yp, .int .i64 x6, .int .i64 x7, .string (st xm)]
  exact bodyPost_ret (v := .agg #[.int .i64 x0, .int .i64 x1, .int .i64 x2, .int .i64 x3, .int .i64 x4, .int .i64 x5, .string (st xn), .bool xd, .int .i64 xv, .int .i64 xp, .slice A3 (mq + 1) c3, .slice Xd md dd, .bool yd, .int .i64 yv, .int .i64 yp, .int .i64 x6, .int .i64 x7, .string (st xm)]) (results_cellBlk Try.results11 rfl hF (by kernel_rfl) tellT_agg) rfl (HPOST.out hKz)

theorem odd_ok (t : TellV) (Aq : Option Addr) (nq cq : Nat) (Ad : Option Addr) (nd cd : Nat) (which n : Int) (s : List UInt8) (w : World) (hok : TellOk w w.heap.size t Aq nq cq Ad nd cd) (hw : I64 which) (hs : s.length ≤ 9223372036854775807) :
    Calls Try.prog 11 #[.agg (tellC t Aq nq cq Ad nd cd).toArray, .int .i64 which, .int .i64 n, .string (st s)] w (OddPost w) := by
  have h0 := Int.emod_nonneg (up0 which) (show (14 : Int) ≠ 0 by omega)
  have h1 := Int.emod_lt_of_pos (up0 which) (show (0 : Int) < 14 by omega)
  rcases (by omega : up0 which % 14 = 0 ∨ up0 which % 14 = 1 ∨ up0 which % 14 = 2 ∨ up0 which % 14 = 3 ∨ up0 which % 14 = 4 ∨ up0 which % 14 = 5 ∨ up0 which % 14 = 6 ∨ up0 which % 14 = 7 ∨ up0 which % 14 = 8 ∨ up0 which % 14 = 9 ∨ up0 which % 14 = 10 ∨ up0 which % 14 = 11 ∨ up0 which % 14 = 12 ∨ up0 which % 14 = 13) with h | h | h | h | h | h | h | h | h | h | h | h | h | h
  · exact odd_0 t.kind t.tag t.code t.msize t.iounit t.count t.name t.qid.dir t.qid.ver t.qid.path t.qids t.data t.sqid.dir t.sqid.ver t.sqid.path t.smode t.ssize t.sname Aq nq cq Ad nd cd which n s w hok hw hs h
  · exact odd_1 t.kind t.tag t.code t.msize t.iounit t.count t.name t.qid.dir t.qid.ver t.qid.path t.qids t.data t.sqid.dir t.sqid.ver t.sqid.path t.smode t.ssize t.sname Aq nq cq Ad nd cd which n s w hok hw hs h
  · exact odd_2 t.kind t.tag t.code t.msize t.iounit t.count t.name t.qid.dir t.qid.ver t.qid.path t.qids t.data t.sqid.dir t.sqid.ver t.sqid.path t.smode t.ssize t.sname Aq nq cq Ad nd cd which n s w hok hw hs h
  · exact odd_3 t.kind t.tag t.code t.msize t.iounit t.count t.name t.qid.dir t.qid.ver t.qid.path t.qids t.data t.sqid.dir t.sqid.ver t.sqid.path t.smode t.ssize t.sname Aq nq cq Ad nd cd which n s w hok hw hs h
  · exact odd_4 t.kind t.tag t.code t.msize t.iounit t.count t.name t.qid.dir t.qid.ver t.qid.path t.qids t.data t.sqid.dir t.sqid.ver t.sqid.path t.smode t.ssize t.sname Aq nq cq Ad nd cd which n s w hok hw hs h
  · exact odd_5 t.kind t.tag t.code t.msize t.iounit t.count t.name t.qid.dir t.qid.ver t.qid.path t.qids t.data t.sqid.dir t.sqid.ver t.sqid.path t.smode t.ssize t.sname Aq nq cq Ad nd cd which n s w hok hw hs h
  · exact odd_6 t.kind t.tag t.code t.msize t.iounit t.count t.name t.qid.dir t.qid.ver t.qid.path t.qids t.data t.sqid.dir t.sqid.ver t.sqid.path t.smode t.ssize t.sname Aq nq cq Ad nd cd which n s w hok hw hs h
  · exact odd_7 t.kind t.tag t.code t.msize t.iounit t.count t.name t.qid.dir t.qid.ver t.qid.path t.qids t.data t.sqid.dir t.sqid.ver t.sqid.path t.smode t.ssize t.sname Aq nq cq Ad nd cd which n s w hok hw hs h
  · exact odd_8 t.kind t.tag t.code t.msize t.iounit t.count t.name t.qid.dir t.qid.ver t.qid.path t.qids t.data t.sqid.dir t.sqid.ver t.sqid.path t.smode t.ssize t.sname Aq nq cq Ad nd cd which n s w hok hw hs h
  · exact odd_9 t.kind t.tag t.code t.msize t.iounit t.count t.name t.qid.dir t.qid.ver t.qid.path t.qids t.data t.sqid.dir t.sqid.ver t.sqid.path t.smode t.ssize t.sname Aq nq cq Ad nd cd which n s w hok hw hs h
  · exact odd_10 t.kind t.tag t.code t.msize t.iounit t.count t.name t.qid.dir t.qid.ver t.qid.path t.qids t.data t.sqid.dir t.sqid.ver t.sqid.path t.smode t.ssize t.sname Aq nq cq Ad nd cd which n s w hok hw hs h
  · exact odd_11 t.kind t.tag t.code t.msize t.iounit t.count t.name t.qid.dir t.qid.ver t.qid.path t.qids t.data t.sqid.dir t.sqid.ver t.sqid.path t.smode t.ssize t.sname Aq nq cq Ad nd cd which n s w hok hw hs h
  · exact odd_12 t.kind t.tag t.code t.msize t.iounit t.count t.name t.qid.dir t.qid.ver t.qid.path t.qids t.data t.sqid.dir t.sqid.ver t.sqid.path t.smode t.ssize t.sname Aq nq cq Ad nd cd which n s w hok hw hs h
  · exact odd_13 t.kind t.tag t.code t.msize t.iounit t.count t.name t.qid.dir t.qid.ver t.qid.path t.qids t.data t.sqid.dir t.sqid.ver t.sqid.path t.smode t.ssize t.sname Aq nq cq Ad nd cd which n s w hok hw hs h
end Go.Proofs.Ytoplkglnjgllnaa
