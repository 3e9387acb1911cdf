/-
  tell.Read.
-/
import Derived.Test.YtoplkglnjgllnaaTrV
import Derived.Test.YtoplkglnjgllnaaTrM
namespace Go.Proofs.Ytoplkglnjgllnaa
open Go.RowKit
set_option linter.unusedVariables false
set_option linter.unusedSimpArgs false

/-- A struct loaded whose cells are known; the operation may have a guard. -/
theorem wpList_loadMid {P : Program} {w : World} {ops : Array Oper} {rest : List Oper} {o : Oper} {a : Act} {Q : Exit → Act → World → Prop} (hw : Region.wanted o (yielded ops a.tmps) = true) (x : Operand) {t : TypeId} (ho : o.op = .load t x)
    {g off : Nat} {xs : List Value} (hx : a.eval x = .pointer (some ⟨g, off, none⟩)) (hc : ∀ k v, xs[k]? = some v → w.cell? ⟨g, off + k, none⟩ = some v) (hs : (P.info? t).map (·.size) = some xs.length) (ha : ∀ w, (isAgg t).run P w = .ok true w)
    (k : wpList P ops Q rest (a.put o.dst (.agg xs.toArray)) w) : wpList P ops Q (o :: rest) a w :=
  wpList_step fun K hK => by
    rw [if_pos hw]
    unfold Oper.wp execOp
    simp only [ho, hx, run_loadMid hc hs ha, Sem.run_bind, Result.andThen_ok, Sem.run_pure]
    exact hK _ _ k
/-- A function's two results, a struct's cell known whole and a value. -/
theorem results_cellTmp {P : Program} {w : World} {fn : Func} {tmps : Array Value} {s r g : Nat} {t : TypeId} {cs : List Value} {v : Value} (hr : fn.results = #[.cell s t, .tmp r]) (ht : tmps.getD s undef = .pointer (some ⟨g, 0, none⟩)) (hv : tmps.getD r undef = v) (h : Blk w g t cs) (hs : (P.info? t).map (·.size) = some cs.length) (ha : ∀ w, (isAgg t).run P w = .ok true w) :
    (results fn tmps).run P w = .ok (.tuple #[.agg cs.toArray, v]) w := by
  have hv1 := h.loadVar hs ha
  have hq : (asAddr (tmps.getD s undef)).run P w = .ok ⟨g, 0, none⟩ w := by rw [ht]; rfl
  simp only [results, hr]
  simp [-Array.getD_eq_getD_getElem?, hq, hv1, hv]
theorem txL_len (l : List UInt8) (e : Int) : (txL l e).length ≤ l.length := Nat.le_trans (nxL_le _ _ _) (nxL_le _ _ _)
theorem txB_len18 (l : List UInt8) (e : Int) : (txB l e).length ≤ l.length := Nat.le_trans (nxB_le _ _ _) (nxL_le _ _ _)
theorem dtL_len (l : List UInt8) (e m : Int) : (dtL l e m).length ≤ l.length := by
  unfold dtL; split
  · simp
  · exact Nat.le_trans (nxL_le _ _ _) (nxL_le _ _ _)
theorem dtB_len18 (l : List UInt8) (e m : Int) : (dtB l e m).length ≤ l.length := by
  unfold dtB; split
  · simp
  · exact Nat.le_trans (nxB_le _ _ _) (nxL_le _ _ _)
theorem qidS_le (s : S18) : (qidS s).l.length ≤ s.l.length := Nat.le_trans (tk_le _ _) (Nat.le_trans (tk_le _ _) (tk_le _ _))
theorem qsS_le : ∀ (n : Nat) (s : S18), (qsS n s).l.length ≤ s.l.length
  | 0, _ => Nat.le_refl _
  | n + 1, s => Nat.le_trans (qsS_le n (qidS s)) (qidS_le s)
theorem rpS_le (k : Int) (s : S18) : (rpS k s).l.length ≤ s.l.length := by
  unfold rpS
  repeat' split
  · exact tk_le _ _
  · exact tk_le _ _
  · exact tk_le _ _
  · exact tk_le _ _
  · exact txL_len _ _
  · exact qidS_le _
  · unfold qsrS; split
    · exact Nat.le_trans (qsS_le _ _) (tk_le _ _)
    · exact tk_le _ _
  · exact dtL_len _ _ _
  · exact Nat.le_trans (txL_len _ _) (Nat.le_trans (tk_le _ _) (Nat.le_trans (tk_le _ _) (qidS_le _)))
  · exact Nat.le_refl _
def TB (t : TellV) : Prop := t.qids.length ≤ 8 ∧ t.data.length ≤ 1000000 ∧ t.name.length ≤ 1000000 ∧ t.sname.length ≤ 1000000
theorem rpT_tb (k : Int) (t : TellV) (s : S18) (h : TB t) (hs : s.l.length ≤ 1000000) : TB (rpT k t s) := by
  obtain ⟨h1, h2, h3, h4⟩ := h
  unfold rpT
  repeat' split
  · exact ⟨h1, h2, h3, h4⟩
  · exact ⟨h1, h2, h3, h4⟩
  · exact ⟨h1, h2, h3, h4⟩
  · exact ⟨h1, h2, h3, h4⟩
  · exact ⟨h1, h2, Nat.le_trans (txB_len18 _ _) hs, h4⟩
  · exact ⟨h1, h2, h3, h4⟩
  · refine ⟨?_, h2, h3, h4⟩
    show (qsrV s).length ≤ 8
    unfold qsrV; split
    · rw [qsV_len]; assumption
    · simp
  · exact ⟨h1, Nat.le_trans (dtB_len18 _ _ _) hs, h3, h4⟩
  · refine ⟨h1, h2, h3, ?_⟩
    exact Nat.le_trans (txB_len18 _ _) (Nat.le_trans (Nat.le_trans (tk_le _ _) (Nat.le_trans (tk_le _ _) (qidS_le _))) hs)
  · exact ⟨h1, h2, h3, h4⟩
/-- What is read, part by part. -/
def stepR (x : TellV × Bool × Bool × S18) (k : Int) : TellV × Bool × Bool × S18 := (rpT k x.1 x.2.2.2, x.2.1 || rpO k x.2.2.2, x.2.2.1 || rpW k x.2.2.2, rpS k x.2.2.2)
theorem foldR_ok : ∀ (ks : List Int) (x : TellV × Bool × Bool × S18), TB x.1 → x.2.2.2.l.length ≤ 1000000 → TB (ks.foldl stepR x).1 ∧ (ks.foldl stepR x).2.2.2.l.length ≤ 1000000
  | [], x, h1, h2 => ⟨h1, h2⟩
  | k :: ks, x, h1, h2 => foldR_ok ks (stepR x k) (rpT_tb k x.1 x.2.2.2 h1 h2) (Nat.le_trans (rpS_le k x.2.2.2) h2)
def zeroT : TellV := bareT 0 0
def readX (l : List UInt8) : TellV × Bool × Bool × S18 := (partsM (vl 1 (tk 4 ⟨l.take 7, 0⟩))).foldl stepR (bareT (vl 1 (tk 4 ⟨l.take 7, 0⟩)) (vl 2 (tk 1 (tk 4 ⟨l.take 7, 0⟩))), false, false, ⟨l.drop 7, 0⟩)
/-- The reply of bytes, or the error. -/
def readR (l : List UInt8) : TellV × Int :=
  if l.length < 7 then (zeroT, 3)
  else if vl 4 ⟨l.take 7, 0⟩ ≠ l.length ∨ kindsW.contains (vl 1 (tk 4 ⟨l.take 7, 0⟩) : Int) = false then (zeroT, 2)
  else if (readX l).2.1 = true then (zeroT, 4)
  else if endE (readX l).2.2.2.l (readX l).2.2.2.e ≠ 0 then (zeroT, endE (readX l).2.2.2.l (readX l).2.2.2.e)
  else if (readX l).2.2.1 = true ∨ layOk (readX l).1 = false then (zeroT, 2)
  else ((readX l).1, 0)
def ReadT (l : List UInt8) (w : World) (e : Ending) (w' : World) : Prop :=
  ∃ (x : TellV) (Aq : Option Addr) (nq cq : Nat) (Ad : Option Addr) (nd cd : Nat) (er : Int), Hid (x = (readR l).1) ∧ Hid (er = (readR l).2) ∧ Hid (TB x) ∧ e = .returned (.tuple #[.agg (tellC x Aq nq cq Ad nd cd).toArray, .int .i64 er]) ∧ OwR w' w.heap.size 23 3 Aq nq cq (x.qids.map qidC) ∧ OwB w' w.heap.size Ad nd cd x.data ∧ Below w.heap.size w w'
def ReadJ (g gr : Nat) (p : List Int) (x0 : TellV × Bool × Bool × S18) (w : World) (i : Value) (wr : World) : Prop :=
  ∃ (j : Nat) (t : TellV) (ov wg : Bool) (s : S18), j ≤ p.length ∧ i = .int .i64 j ∧ Hid ((t, ov, wg, s) = (p.take j).foldl stepR x0) ∧ RrT wr g gr t ov wg s ∧ Keeps (Two18 g gr) w wr
theorem tellC_one (t : TellV) (Aq : Option Addr) (nq cq : Nat) (Ad : Option Addr) (nd cd : Nat) : ∀ v ∈ tellC t Aq nq cq Ad nd cd, v.oneCell' = true := by simp [tellC, Value.oneCell']
theorem zero_tb : TB zeroT := ⟨by decide, by decide, by decide, by decide⟩
theorem zero_post {l : List UInt8} {w w' : World} {er : Int} (h1 : (readR l) = (zeroT, er)) (hb : Below w.heap.size w w') : ReadT l w (.returned (.tuple #[.agg #[.int .i64 0, .int .i64 0, .int .i64 0, .int .i64 0, .int .i64 0, .int .i64 0, .string ByteArray.empty, .bool false, .int .i64 0, .int .i64 0, .slice none 0 0, .slice none 0 0, .bool false, .int .i64 0, .int .i64 0, .int .i64 0, .int .i64 0, .string ByteArray.empty], .int .i64 er])) w' :=
  ⟨zeroT, none, 0, 0, none, 0, 0, er, Lib.hid (by rw [h1]), Lib.hid (by rw [h1]), Lib.hid zero_tb, rfl, OwR.nil _ _ _ _, OwB.nil _ _, hb⟩
set_option maxRecDepth 20000 in
set_option maxHeartbeats 8000000 in
theorem tRead_any (A : Option Addr) (n c : Nat) (l : List UInt8) (w : World) (h : RdB w w.heap.size A n l) (hnc : n ≤ c) (hcm : c ≤ maxLen) (hn : n ≤ 1000000) :
    Calls Try.prog 24 #[.slice A n c] w (ReadT l w) := by
  have hln : l.length = n := h.len
  have hZ0 := Blk.new w 29 [.int .i64 0, .int .i64 0, .int .i64 0, .int .i64 0, .int .i64 0, .int .i64 0, .string ByteArray.empty, .bool false, .int .i64 0, .int .i64 0, .slice none 0 0, .slice none 0 0, .bool false, .int .i64 0, .int .i64 0, .int .i64 0, .int .i64 0, .string ByteArray.empty]
  obtain ⟨W, hW⟩ : ∃ W, W = w.alloc (.cells #[.int .i64 0, .int .i64 0, .int .i64 0, .int .i64 0, .int .i64 0, .int .i64 0, .string ⟨#[]⟩, .bool false, .int .i64 0, .int .i64 0, .slice none 0 0, .slice none 0 0, .bool false, .int .i64 0, .int .i64 0, .int .i64 0, .int .i64 0, .string ⟨#[]⟩] 29) := ⟨_, rfl⟩
  have hW' : W = w.alloc (.cells [.int .i64 0, .int .i64 0, .int .i64 0, .int .i64 0, .int .i64 0, .int .i64 0, .string ByteArray.empty, .bool false, .int .i64 0, .int .i64 0, .slice none 0 0, .slice none 0 0, .bool false, .int .i64 0, .int .i64 0, .int .i64 0, .int .i64 0, .string ByteArray.empty].toArray 29) := hW
  rw [← hW'] at hZ0
  have hb0 : Below w.heap.size w W := by rw [hW]; exact (Below.refl _ _).alloc (Nat.le_refl _) _
  obtain ⟨Z, hZ⟩ : ∃ Z, Z = w.heap.size := ⟨_, rfl⟩
  rw [← hZ] at hZ0
  have HZ := Lib.hid hZ0
  have HB := Lib.hid hb0
  have HZe := Lib.hid hZ
  have HR := Lib.hid h
  have HLN := Lib.hid hln
  have hZlt := hZ0.lt
  unfold maxLen at hcm
  clear hZ0 hb0 hW' h hln
  by_cases h7 : n < 7
  · have hrr : readR l = (zeroT, 3) := by unfold readR; rw [if_pos (by rw [HLN.out]; exact h7)]
    have HRR := Lib.hid hrr
    have h7i : (n : Int) < 7 := by omega
    clear hrr
    go_enter Try.func24, Try.ntmps24
    go_upto_region 1 with fail
    rw [← hW, ← hZ]
    clear hW hZ
    have hF := HZ.out.setRow [.int .i64 0, .int .i64 0, .int .i64 0, .int .i64 0, .int .i64 0, .int .i64 0, .string ByteArray.empty, .bool false, .int .i64 0, .int .i64 0, .slice none 0 0, .slice none 0 0, .bool false, .int .i64 0, .int .i64 0, .int .i64 0, .int .i64 0, .string ByteArray.empty]
    go_wp2_with (refine wpList_storeBlk rfl (.tmp 2) (.tmp 17) rfl rfl [.int .i64 0, .int .i64 0, .int .i64 0, .int .i64 0, .int .i64 0, .int .i64 0, .string ByteArray.empty, .bool false, .int .i64 0, .int .i64 0, .slice none 0 0, .slice none 0 0, .bool false, .int .i64 0, .int .i64 0, .int .i64 0, .int .i64 0, .string ByteArray.empty] rfl rfl (by kernel_rfl) HZ.out rfl (by simp [Value.oneCell']) ?_)
    exact bodyPost_ret (v := .tuple #[.agg #[.int .i64 0, .int .i64 0, .int .i64 0, .int .i64 0, .int .i64 0, .int .i64 0, .string ByteArray.empty, .bool false, .int .i64 0, .int .i64 0, .slice none 0 0, .slice none 0 0, .bool false, .int .i64 0, .int .i64 0, .int .i64 0, .int .i64 0, .string ByteArray.empty], .int .i64 3]) (results_cellTmp Try.results24 rfl rfl hF (by kernel_rfl) tellT_agg) rfl (zero_post HRR.out (below_setRow HB.out (by have := HZe.out; omega) _))
  · have h7i : ¬ (n : Int) < 7 := by omega
    have h7n : 7 ≤ n := by omega
    have h7c : (7 : Int) ≤ c := by omega
    have hnc' : (n : Int) ≤ c := by omega
    obtain ⟨A7, hA7⟩ : ∃ A7, (if c = 7 then A else A.map (fun x => ({ block := x.block, off := x.off + 7 } : Addr))) = A7 := ⟨_, rfl⟩
    have hfirst := HR.out.first h7n
    have hcut := HR.out.cut h7n hnc
    have hA7' : (if c = 7 then A else A.map (·.add 7)) = A7 := by rw [← hA7, show (fun x : Addr => x.add 7) = fun x => ({ block := x.block, off := x.off + 7 } : Addr) from by funext x; simp [Addr.add]]
    rw [hA7'] at hcut
    have HF := Lib.hid hfirst
    have HC := Lib.hid hcut
    have hll : l.length ≤ 1000000 := by rw [HLN.out]; exact hn
    have HLL := Lib.hid hll
    clear hfirst hcut hA7' hll
    go_enter Try.func24, Try.ntmps24
    go_upto_region 1 with fail
    rw [← hW, ← hZ]
    clear hW hZ
    go_wp2_with fail
    refine (read_any A 7 c (l.take 7) _ ((HF.out.below HB.out).more HB.out.size) (by omega)).mono ?_
    rintro x w1 ⟨gt, rfl, hgt, hR1, hb1⟩
    have HB1 := Lib.hid (Up.trans HB.out hb1)
    have HZ1 := Lib.hid (HZ.out.up hb1)
    have HG1 := Lib.hid hR1
    have hgtw : w.heap.size ≤ gt := by have := HB.out.size; omega
    have nZ : ¬ Is gt Z := fun e => by have e' : Z = gt := e; omega
    have under : ∀ {a b : World}, Keeps (Is gt) a b → w.heap.size ≤ a.heap.size → Below w.heap.size a b := fun k h => k.under h (fun i hi e => by have e' : i = gt := e; omega)
    have UNDER := Lib.hid (show ∀ (a b : World), Keeps (Is gt) a b → w.heap.size ≤ a.heap.size → Below w.heap.size a b from fun a b h1 h2 => under h1 h2)
    clear hb1 hR1 under
    go_wp2_with fail
    refine (rU32_any gt (l.take 7) 0 _ HG1.out).mono ?_
    rintro x w2 ⟨v1, l1, e1, hv1, hl1, he1, rfl, hR2, hK2⟩
    have HB2 := Lib.hid (HB1.out.trans (UNDER.out _ _ hK2 HB1.out.size))
    have HZ2 := Lib.hid (HZ1.out.keeps hK2 nZ)
    have HG2 := Lib.hid hR2
    clear hR2 hK2
    go_wp2_with fail
    refine (rU8_any gt l1 e1 _ HG2.out).mono ?_
    rintro x w3 ⟨v2, l2, e2, hv2, hl2, he2, rfl, hR3, hK3⟩
    have HB3 := Lib.hid (HB2.out.trans (UNDER.out _ _ hK3 HB2.out.size))
    have HZ3 := Lib.hid (HZ2.out.keeps hK3 nZ)
    have HG3 := Lib.hid hR3
    clear hR3 hK3
    go_wp2_with fail
    refine (rU16_any gt l2 e2 _ HG3.out).mono ?_
    rintro x w4 ⟨v3, l3, e3, hv3, hl3, he3, rfl, hR4, hK4⟩
    have HB4 := Lib.hid (HB3.out.trans (UNDER.out _ _ hK4 HB3.out.size))
    have HZ4 := Lib.hid (HZ3.out.keeps hK4 nZ)
    have hs1 : tk 4 ⟨l.take 7, 0⟩ = ⟨l1, e1⟩ := by unfold tk; rw [hl1.out, he1.out]
    have hs2 : tk 1 (tk 4 ⟨l.take 7, 0⟩) = ⟨l2, e2⟩ := by rw [hs1]; unfold tk; rw [hl2.out, he2.out]
    have hq1 : vl 4 ⟨l.take 7, 0⟩ = v1 := by unfold vl; rw [hv1.out]
    have hq2 : vl 1 (tk 4 ⟨l.take 7, 0⟩) = v2 := by rw [hs1]; unfold vl; rw [hv2.out]
    have hq3 : vl 2 (tk 1 (tk 4 ⟨l.take 7, 0⟩)) = v3 := by rw [hs2]; unfold vl; rw [hv3.out]
    have b1 : v1 < 4294967296 := by have := vl_lt 4 ⟨l.take 7, 0⟩; rw [hq1] at this; simpa using this
    have b2 : v2 < 256 := by have := vl_lt 1 (tk 4 ⟨l.take 7, 0⟩); rw [hq2] at this; simpa using this
    have b3 : v3 < 65536 := by have := vl_lt 2 (tk 1 (tk 4 ⟨l.take 7, 0⟩)); rw [hq3] at this; simpa using this
    have HQ1 := Lib.hid hq1
    have HQ2 := Lib.hid hq2
    have HX := Lib.hid (show readX l = (partsM v2).foldl stepR (bareT v2 v3, false, false, ⟨l.drop 7, 0⟩) by unfold readX; rw [hq2, hq3])
    clear hR4 hK4 hs1 hs2 hq1 hq2 hq3 hv1 hv2 hv3 hl1 hl2 hl3 he1 he2 he3 HG1 HG2 HG3 HB1 HB2 HB3 HZ1 HZ2 HZ3 HB HZ
    go_wp2_with fail
    refine (parts_any v2 _).mono ?_
    rintro e w5 ⟨Ap, np, cp, p, b, hp, hbk, rfl, hrp, hb5⟩
    have HB5 := Lib.hid (HB4.out.trans (hb5.mono HB4.out.size))
    have HZ5 := Lib.hid (HZ4.out.up hb5)
    have HRP := Lib.hid hrp
    have hlp : p.length = np := by have := hrp.len; simpa [iv18] using this
    have hnp : np ≤ 2 := by rw [← hlp, hp.out]; exact partsM_len v2
    have HLP := Lib.hid hlp
    clear hb5 hrp hlp HB4 HZ4
    have hbad : (¬ v1 = n ∨ (v1 = n ∧ b = false)) ∨ (v1 = n ∧ b = true) := by
      by_cases h1 : v1 = n
      · rcases b with _ | _
        · exact .inl (.inr ⟨h1, rfl⟩)
        · exact .inr ⟨h1, rfl⟩
      · exact .inl (.inl h1)
    rcases hbad with hbad | ⟨rfl, rfl⟩
    · have hrr : readR l = (zeroT, 2) := by
        unfold readR
        rw [if_neg (by rw [HLN.out]; omega), if_pos ?_]
        rw [HQ1.out, HQ2.out, HLN.out, ← hbk.out]
        rcases hbad with h1 | ⟨_, h1⟩
        · exact .inl h1
        · exact .inr h1
      have HRR := Lib.hid hrr
      have hF := HZ5.out.setRow [.int .i64 0, .int .i64 0, .int .i64 0, .int .i64 0, .int .i64 0, .int .i64 0, .string ByteArray.empty, .bool false, .int .i64 0, .int .i64 0, .slice none 0 0, .slice none 0 0, .bool false, .int .i64 0, .int .i64 0, .int .i64 0, .int .i64 0, .string ByteArray.empty]
      clear hrr
      rcases hbad with h1 | ⟨rfl, rfl⟩
      all_goals
        go_wp2_with (refine wpList_storeBlk rfl (.tmp 2) (.tmp 42) rfl rfl [.int .i64 0, .int .i64 0, .int .i64 0, .int .i64 0, .int .i64 0, .int .i64 0, .string ByteArray.empty, .bool false, .int .i64 0, .int .i64 0, .slice none 0 0, .slice none 0 0, .bool false, .int .i64 0, .int .i64 0, .int .i64 0, .int .i64 0, .string ByteArray.empty] rfl rfl (by kernel_rfl) HZ5.out rfl (by simp [Value.oneCell']) ?_)
        exact bodyPost_ret (v := .tuple #[.agg #[.int .i64 0, .int .i64 0, .int .i64 0, .int .i64 0, .int .i64 0, .int .i64 0, .string ByteArray.empty, .bool false, .int .i64 0, .int .i64 0, .slice none 0 0, .slice none 0 0, .bool false, .int .i64 0, .int .i64 0, .int .i64 0, .int .i64 0, .string ByteArray.empty], .int .i64 2]) (results_cellTmp Try.results24 rfl rfl hF (by kernel_rfl) tellT_agg) rfl (zero_post HRR.out (below_setRow HB5.out (by have := HZe.out; omega) _))
    · go_wp2_with fail
      refine (read_any A7 (v1 - 7) (c - 7) (l.drop 7) _ ((HC.out.below HB5.out).more HB5.out.size) (by omega)).mono ?_
      rintro x w6 ⟨gr, rfl, hgr, hR6, hb6⟩
      have hgrl : gr < w6.heap.size := hR6.lt
      have HB6 := Lib.hid (HB5.out.trans (hb6.mono HB5.out.size))
      have hZ6 := HZ5.out.up hb6
      have hRP6 := HRP.out.below (hb6)
      go_upto_region 11 with fail
      have hB7 := Blk.new w6 76 [.pointer (some ⟨gr, 0, none⟩), .int .i64 v2, .int .i64 v3, .int .i64 0, .int .i64 0, .int .i64 0, .int .i64 0, .string ByteArray.empty, .bool false, .int .i64 0, .int .i64 0, .slice none 0 0, .slice none 0 0, .bool false, .int .i64 0, .int .i64 0, .int .i64 0, .int .i64 0, .string ByteArray.empty, .bool false, .bool false]
      have hbal : Below w6.heap.size w6 (w6.alloc (.cells #[.pointer (some ⟨gr, 0, none⟩), .int .i64 v2, .int .i64 v3, .int .i64 0, .int .i64 0, .int .i64 0, .int .i64 0, .string ⟨#[]⟩, .bool false, .int .i64 0, .int .i64 0, .slice none 0 0, .slice none 0 0, .bool false, .int .i64 0, .int .i64 0, .int .i64 0, .int .i64 0, .string ⟨#[]⟩, .bool false, .bool false] 76)) := (Below.refl _ _).alloc (Nat.le_refl _) _
      have hR7 := hR6.up hbal
      have hb7 := Lib.hid (HB6.out.trans (hbal.mono HB6.out.size))
      have hZ7 := hZ6.up hbal
      have hRP7 := hRP6.below (hbal.mono (by have := hb6.size; omega))
      have hB7' : Blk (w6.alloc (.cells #[.pointer (some ⟨gr, 0, none⟩), .int .i64 v2, .int .i64 v3, .int .i64 0, .int .i64 0, .int .i64 0, .int .i64 0, .string ⟨#[]⟩, .bool false, .int .i64 0, .int .i64 0, .slice none 0 0, .slice none 0 0, .bool false, .int .i64 0, .int .i64 0, .int .i64 0, .int .i64 0, .string ⟨#[]⟩, .bool false, .bool false] 76)) w6.heap.size 76 [.pointer (some ⟨gr, 0, none⟩), .int .i64 v2, .int .i64 v3, .int .i64 0, .int .i64 0, .int .i64 0, .int .i64 0, .string ByteArray.empty, .bool false, .int .i64 0, .int .i64 0, .slice none 0 0, .slice none 0 0, .bool false, .int .i64 0, .int .i64 0, .int .i64 0, .int .i64 0, .string ByteArray.empty, .bool false, .bool false] := hB7
      obtain ⟨g, hg⟩ : ∃ g, g = w6.heap.size := ⟨_, rfl⟩
      rw [← hg] at hB7' ⊢
      have hT7 : RrT (w6.alloc (.cells #[.pointer (some ⟨gr, 0, none⟩), .int .i64 v2, .int .i64 v3, .int .i64 0, .int .i64 0, .int .i64 0, .int .i64 0, .string ⟨#[]⟩, .bool false, .int .i64 0, .int .i64 0, .slice none 0 0, .slice none 0 0, .bool false, .int .i64 0, .int .i64 0, .int .i64 0, .int .i64 0, .string ⟨#[]⟩, .bool false, .bool false] 76)) g gr (bareT v2 v3) false false ⟨l.drop 7, 0⟩ := ⟨none, 0, 0, none, 0, 0, ⟨hB7', rfl, hR7, by omega⟩, OwR.nil _ _ _ _, OwB.nil _ _⟩
      have hgw : w5.heap.size ≤ gr := hgr
      have hww : w.heap.size ≤ w5.heap.size := HB5.out.size
      have hZl : Z < w5.heap.size := HZ5.out.lt
      have hgrg : gr < g := by omega
      clear hB7 hbal hR7 hR6 hb6 hRP6 hZ6 hB7' hg HB6 HB5 HZ5 HRP
      generalize w6.alloc (.cells #[.pointer (some ⟨gr, 0, none⟩), .int .i64 v2, .int .i64 v3, .int .i64 0, .int .i64 0, .int .i64 0, .int .i64 0, .string ⟨#[]⟩, .bool false, .int .i64 0, .int .i64 0, .slice none 0 0, .slice none 0 0, .bool false, .int .i64 0, .int .i64 0, .int .i64 0, .int .i64 0, .string ⟨#[]⟩, .bool false, .bool false] 76) = w7 at hb7 hZ7 hRP7 hT7 ⊢
      have HT7 := Lib.hid hT7
      have HZ7 := Lib.hid hZ7
      have HRP7 := Lib.hid hRP7
      have nZ2 : ¬ Two18 g gr Z := fun e => by rcases e with e | e <;> omega
      have hx0 := fun j => foldR_ok (p.take j) (bareT v2 v3, false, false, ⟨l.drop 7, 0⟩) ⟨Nat.zero_le _, Nat.zero_le _, Nat.zero_le _, Nat.zero_le _⟩ (by have := HLL.out; simp; omega)
      have HX0 := Lib.hid hx0
      clear hT7 hZ7 hRP7 hx0
      go_wp2
      go_loopw [55] (fun i wr => ReadJ g gr p (bareT v2 v3, false, false, ⟨l.drop 7, 0⟩) w7 i wr) (fun i _ => np - (intOf i).toNat)
      case atStart => exact ⟨0, _, _, _, _, by omega, rfl, rfl, HT7.out, Keeps.refl _ _⟩
      case round =>
        obtain ⟨j, t, ov, wg, s, hj, rfl, hst, hwt, hkw⟩ := hrel
        have hjn : j ≤ np := by rw [← HLP.out]; exact hj
        have hkb : Below w5.heap.size w7 wr := hkw.under (by have := HT7.out.lt; omega) (fun k hk e => by rcases e with e | e <;> omega)
        by_cases hlt : j < np
        · have j0 : (0 : Int) ≤ j := by omega
          have j1 : (j : Int) < np := by omega
          have hjp : j < p.length := by rw [HLP.out]; exact hlt
          obtain ⟨bp, op, up, hAp, hbp, hup, hcp⟩ := (HRP7.out.below hkb).at_ hlt
          obtain ⟨k, hkj⟩ : ∃ k, p[j]? = some k := ⟨_, List.getElem?_eq_getElem hjp⟩
          have hup' : up = .int .i64 k := by
            unfold iv18 at hup
            rw [List.getElem?_map, hkj] at hup
            exact (Option.some.inj hup).symm
          subst hup'
          subst hAp
          have hsm := parts_small v2 j k (by rw [← hp.out]; exact hkj) (bareT 0 0) true
          have hk08 := hsm.1
          have hnn := HX0.out j
          rw [← hst.out] at hnn
          have HSTEP : Hid (stepR (t, ov, wg, s) k = (p.take (j + 1)).foldl stepR (bareT v2 v3, false, false, ⟨l.drop 7, 0⟩)) := Lib.hid (by
            rw [List.take_add_one, hkj]
            simp [← hst.out])
          have HNN := Lib.hid hnn
          have HK8 := Lib.hid hk08
          have HWT := Lib.hid hwt
          have HKW := Lib.hid hkw
          clear hup hkj hsm hnn hk08 hwt hkw hkb hbp
          go_wp2_with fail
          refine (rPart_any k HK8.out g gr t ov wg s _ HWT.out (Nat.le_trans HNN.out.2 (by omega))).mono ?_
          rintro e w8 ⟨rfl, t8, ov8, wg8, s8, ht8, hov8, hwg8, hs8, hw8, hk8⟩
          have HW8 := Lib.hid hw8
          have HK8' := Lib.hid (HKW.out.trans hk8)
          clear hw8 hk8 hcp
          go_wp2
          go_roundw
          case rel => exact ⟨j + 1, t8, ov8, wg8, s8, by rw [HLP.out]; omega, by go_num, Lib.hid (by rw [← HSTEP.out, ht8.out, hov8.out, hwg8.out, hs8.out]; rfl), HW8.out, HK8'.out⟩
          case measure => simp [intOf]; omega
        · obtain rfl : j = np := by omega
          have j1 : ¬ (j : Int) < j := by omega
          have hfin : readX l = (t, ov, wg, s) := by rw [HX.out, ← hp.out, hst.out, List.take_of_length_le (by rw [HLP.out]; exact Nat.le_refl _)]
          have hnn := HX0.out j
          rw [← hst.out] at hnn
          have htb : TB t := hnn.1
          have HTB := Lib.hid htb
          have hrd : readR l = if ov = true then (zeroT, 4) else if endE s.l s.e ≠ 0 then (zeroT, endE s.l s.e) else if wg = true ∨ layOk t = false then (zeroT, 2) else (t, 0) := by
            unfold readR
            rw [if_neg (by rw [HLN.out]; omega), if_neg ?_, hfin]
            rw [HQ1.out, HQ2.out, HLN.out, ← hbk.out]
            simp
          have HRD := Lib.hid hrd
          have HBW := Lib.hid (hb7.out.trans (hkb.mono hww))
          have hZr := HZ7.out.keeps hkw nZ2
          obtain ⟨Aq, nq, cq, Ad, nd, cd, hrs, hoq, hod⟩ := hwt
          have c0 := hrs.c0
          have c19 := hrs.c19
          have c20 := hrs.c20
          have HRS := Lib.hid hrs
          have HOQ := Lib.hid hoq
          have HOD := Lib.hid hod
          have HZR := Lib.hid hZr
          have hFz := hZr.setRow [.int .i64 0, .int .i64 0, .int .i64 0, .int .i64 0, .int .i64 0, .int .i64 0, .string ByteArray.empty, .bool false, .int .i64 0, .int .i64 0, .slice none 0 0, .slice none 0 0, .bool false, .int .i64 0, .int .i64 0, .int .i64 0, .int .i64 0, .string ByteArray.empty]
          have HFZ := Lib.hid hFz
          have hbz : ∀ cs, Below w.heap.size w (wr.setRow Z cs) := fun cs => below_setRow HBW.out (by have := HZe.out; omega) cs
          have HBZ := Lib.hid hbz
          clear hst hkb hkw hfin hnn htb hrd hrs hoq hod hZr hFz hbz
          rcases ov with _ | _
          case true =>
            have HR4 := Lib.hid (show readR l = (zeroT, 4) by rw [HRD.out, if_pos rfl])
            go_wp2_with (refine wpList_storeBlk rfl (.tmp 2) (.tmp 67) rfl rfl [.int .i64 0, .int .i64 0, .int .i64 0, .int .i64 0, .int .i64 0, .int .i64 0, .string ByteArray.empty, .bool false, .int .i64 0, .int .i64 0, .slice none 0 0, .slice none 0 0, .bool false, .int .i64 0, .int .i64 0, .int .i64 0, .int .i64 0, .string ByteArray.empty] rfl rfl (by kernel_rfl) HZR.out rfl (by simp [Value.oneCell']) ?_)
            exact bodyPost_ret (v := .tuple #[.agg #[.int .i64 0, .int .i64 0, .int .i64 0, .int .i64 0, .int .i64 0, .int .i64 0, .string ByteArray.empty, .bool false, .int .i64 0, .int .i64 0, .slice none 0 0, .slice none 0 0, .bool false, .int .i64 0, .int .i64 0, .int .i64 0, .int .i64 0, .string ByteArray.empty], .int .i64 4]) (results_cellTmp Try.results24 rfl rfl HFZ.out (by kernel_rfl) tellT_agg) rfl (zero_post HR4.out (HBZ.out _))
          go_wp2_with fail
          refine (rEnd_any gr s.l s.e _ HRS.out.2.2.1).mono ?_
          rintro e w9 ⟨rfl, rfl⟩
          by_cases hend : endE s.l s.e = 0
          case neg =>
            have HR5 := Lib.hid (show readR l = (zeroT, endE s.l s.e) by rw [HRD.out, if_neg (by simp), if_pos hend])
            have hne : (endE s.l s.e != 0) = true := by simpa using hend
            go_wp2_with (refine wpList_storeBlk rfl (.tmp 2) (.tmp 75) rfl rfl [.int .i64 0, .int .i64 0, .int .i64 0, .int .i64 0, .int .i64 0, .int .i64 0, .string ByteArray.empty, .bool false, .int .i64 0, .int .i64 0, .slice none 0 0, .slice none 0 0, .bool false, .int .i64 0, .int .i64 0, .int .i64 0, .int .i64 0, .string ByteArray.empty] rfl rfl (by kernel_rfl) HZR.out rfl (by simp [Value.oneCell']) ?_)
            exact bodyPost_ret (v := .tuple #[.agg #[.int .i64 0, .int .i64 0, .int .i64 0, .int .i64 0, .int .i64 0, .int .i64 0, .string ByteArray.empty, .bool false, .int .i64 0, .int .i64 0, .slice none 0 0, .slice none 0 0, .bool false, .int .i64 0, .int .i64 0, .int .i64 0, .int .i64 0, .string ByteArray.empty], .int .i64 (endE s.l s.e)]) (results_cellTmp Try.results24 rfl rfl HFZ.out (by kernel_rfl) tellT_agg) rfl (zero_post HR5.out (HBZ.out _))
          rcases wg with _ | _
          case true =>
            have HR6 := Lib.hid (show readR l = (zeroT, 2) by rw [HRD.out, if_neg (by simp), if_neg (by simpa using hend), if_pos (.inl rfl)])
            go_wp2_with (refine wpList_storeBlk rfl (.tmp 2) (.tmp 89) rfl rfl [.int .i64 0, .int .i64 0, .int .i64 0, .int .i64 0, .int .i64 0, .int .i64 0, .string ByteArray.empty, .bool false, .int .i64 0, .int .i64 0, .slice none 0 0, .slice none 0 0, .bool false, .int .i64 0, .int .i64 0, .int .i64 0, .int .i64 0, .string ByteArray.empty] rfl rfl (by kernel_rfl) HZR.out rfl (by simp [Value.oneCell']) ?_)
            exact bodyPost_ret (v := .tuple #[.agg #[.int .i64 0, .int .i64 0, .int .i64 0, .int .i64 0, .int .i64 0, .int .i64 0, .string ByteArray.empty, .bool false, .int .i64 0, .int .i64 0, .slice none 0 0, .slice none 0 0, .bool false, .int .i64 0, .int .i64 0, .int .i64 0, .int .i64 0, .string ByteArray.empty], .int .i64 2]) (results_cellTmp Try.results24 rfl rfl HFZ.out (by kernel_rfl) tellT_agg) rfl (zero_post HR6.out (HBZ.out _))
          have hcells : ∀ k v, (tellC t Aq nq cq Ad nd cd)[k]? = some v → wr.cell? ⟨g, 1 + k, none⟩ = some v := fun k v hk => by
            rw [Nat.add_comm]
            exact HRS.out.1.cell (k + 1) v (rr_at HRS.out.2.1 hk)
          have hlq : t.qids.length = nq := by have := HOQ.out.len; simpa using this
          have hld : t.data.length = nd := HOD.out.len
          have hq8 := HTB.out.1
          have hd8 := HTB.out.2.1
          have HCC := Lib.hid hcells
          clear hcells
          rw [hend]
          go_wp2_with (refine wpList_loadMid rfl (.tmp 84) rfl (xs := tellC t Aq nq cq Ad nd cd) rfl HCC.out (by kernel_rfl) tellT_agg ?_; simp only [Act.put, List.setIfInBounds_toArray, List.set_cons_succ, List.set_cons_zero])
          refine (tMay_any t.kind t.tag t.code t.msize t.iounit t.count t.name t.qid.dir t.qid.ver t.qid.path t.qids t.data t.sqid.dir t.sqid.ver t.sqid.path t.smode t.ssize t.sname Aq nq cq Ad nd cd _ HOQ.out.rd HOD.out.rd (by omega) (by omega) (by have := HTB.out.2.2.1; omega) (by have := HTB.out.2.2.2; omega)).mono ?_
          rintro e wm ⟨okm, hokm, rfl, hbm⟩
          have hokm' : okm = layOk t := hokm.out
          have HZm := Lib.hid (HZR.out.up hbm)
          have HBm := Lib.hid (HBW.out.trans (hbm.mono HBW.out.size))
          have HRm := Lib.hid (HRS.out.up hbm)
          have HQm := Lib.hid (HOQ.out.up hbm)
          have HDm := Lib.hid (HOD.out.up hbm)
          clear hbm hokm c0 c19 c20
          rcases okm with _ | _
          · have HR7 := Lib.hid (show readR l = (zeroT, 2) by rw [HRD.out, if_neg (by simp), if_neg (by simpa using hend), if_pos (.inr hokm'.symm)])
            have hFm := HZm.out.setRow [.int .i64 0, .int .i64 0, .int .i64 0, .int .i64 0, .int .i64 0, .int .i64 0, .string ByteArray.empty, .bool false, .int .i64 0, .int .i64 0, .slice none 0 0, .slice none 0 0, .bool false, .int .i64 0, .int .i64 0, .int .i64 0, .int .i64 0, .string ByteArray.empty]
            clear hokm'
            go_wp2_with (refine wpList_storeBlk rfl (.tmp 2) (.tmp 89) rfl rfl [.int .i64 0, .int .i64 0, .int .i64 0, .int .i64 0, .int .i64 0, .int .i64 0, .string ByteArray.empty, .bool false, .int .i64 0, .int .i64 0, .slice none 0 0, .slice none 0 0, .bool false, .int .i64 0, .int .i64 0, .int .i64 0, .int .i64 0, .string ByteArray.empty] rfl rfl (by kernel_rfl) HZm.out rfl (by simp [Value.oneCell']) ?_)
            exact bodyPost_ret (v := .tuple #[.agg #[.int .i64 0, .int .i64 0, .int .i64 0, .int .i64 0, .int .i64 0, .int .i64 0, .string ByteArray.empty, .bool false, .int .i64 0, .int .i64 0, .slice none 0 0, .slice none 0 0, .bool false, .int .i64 0, .int .i64 0, .int .i64 0, .int .i64 0, .string ByteArray.empty], .int .i64 2]) (results_cellTmp Try.results24 rfl rfl hFm (by kernel_rfl) tellT_agg) rfl (zero_post HR7.out (below_setRow HBm.out (by have := HZe.out; omega) _))
          · have HR8 := Lib.hid (show readR l = (t, 0) by rw [HRD.out, if_neg (by simp), if_neg (by simpa using hend), if_neg (by rw [← hokm']; simp)])
            have hFm := HZm.out.setRow (tellC t Aq nq cq Ad nd cd)
            have hks := keeps_setRow wm (g := Z) (tellC t Aq nq cq Ad nd cd).toArray
            have HQf := Lib.hid (OwR.keeps HQm.out hks (fun k hk e => by have e' : k = Z := e; omega))
            have HDf := Lib.hid (OwB.keeps HDm.out hks (fun k hk e => by have e' : k = Z := e; omega))
            have hcm : ∀ k v, (tellC t Aq nq cq Ad nd cd)[k]? = some v → wm.cell? ⟨g, 1 + k, none⟩ = some v := fun k v hk => by
              rw [Nat.add_comm]
              exact HRm.out.1.cell (k + 1) v (rr_at HRm.out.2.1 hk)
            have HCM := Lib.hid hcm
            clear hokm' hks hcm
            have c1 := HRm.out.c0
            clear c1
            go_wp2_with first
              | (refine wpList_loadMid rfl (.tmp 92) rfl (xs := tellC t Aq nq cq Ad nd cd) rfl HCM.out (by kernel_rfl) tellT_agg ?_; simp only [Act.put, List.setIfInBounds_toArray, List.set_cons_succ, List.set_cons_zero])
              | (refine wpList_storeBlk rfl (.tmp 2) (.tmp 93) rfl rfl (tellC t Aq nq cq Ad nd cd) rfl rfl (by kernel_rfl) HZm.out rfl (tellC_one t Aq nq cq Ad nd cd) ?_)
            exact bodyPost_ret (v := .tuple #[.agg (tellC t Aq nq cq Ad nd cd).toArray, .int .i64 0]) (results_cellTmp Try.results24 rfl rfl hFm (by kernel_rfl) tellT_agg) rfl ⟨t, Aq, nq, cq, Ad, nd, cd, 0, Lib.hid (by rw [HR8.out]), Lib.hid (by rw [HR8.out]), HTB, rfl, HQf.out.lower (by omega), OwB.lower HDf.out (by omega), below_setRow HBm.out (by have := HZe.out; omega) _⟩
end Go.Proofs.Ytoplkglnjgllnaa
