/-
  The reference's Read.
  The reply of bytes, or the error, is the reference's (no program in sight).
  The law TellReads, walked.
-/
import Derived.Test.YtoplkglnjgllnaaTrG
import Derived.Test.YtoplkglnjgllnaaTrY
import Derived.Test.YtoplkglnjgllnaaTrM4
import Derived.Test.YtoplkglnjgllnaaTrZ
import Derived.Test.YtoplkglnjgllnaaTrP
import Derived.Test.YtoplkglnjgllnaaTrM
import Derived.Test.YtoplkglnjgllnaaTrA
namespace Go.Proofs.Ytoplkglnjgllnaa
open Go.RowKit
set_option linter.unusedVariables false
set_option linter.unusedSimpArgs false

/-- A layout's fields, read as far as the first error. -/
def runF : List UInt8 → TellV × S18 → TellV × S18
  | [], x => x
  | f :: fs, x => if gtSe f x ≠ 0 then (gtT f.toNat x.1 x.2, gtS f.toNat x.2) else runF fs (gtT f.toNat x.1 x.2, gtS f.toNat x.2)
where gtSe (f : UInt8) (x : TellV × S18) : Int := (gtS f.toNat x.2).e
def hdF (l : List UInt8) : S18 := tk 2 (tk 1 (tk 4 ⟨l, 0⟩))
theorem tk_ok (n : Nat) (l : List UInt8) (h : n ≤ l.length) : tk n ⟨l, 0⟩ = ⟨l.drop n, 0⟩ := by unfold tk nxL nxE; simp [h]
theorem hdF_ok (l : List UInt8) (h : 7 ≤ l.length) : hdF l = ⟨l.drop 7, 0⟩ := by
  unfold hdF
  rw [tk_ok 4 l (by omega), tk_ok 1 _ (by rw [List.length_drop]; omega), tk_ok 2 _ (by rw [List.length_drop, List.length_drop]; omega), List.drop_drop, List.drop_drop]
def kdF (l : List UInt8) : Nat := vl 1 (tk 4 ⟨l, 0⟩)
def readX' (l : List UInt8) : TellV × S18 := runF (fieldsM (kdF l)) (bareT (kdF l) (vl 2 (tk 1 (tk 4 ⟨l, 0⟩))), hdF l)
/-- What the reference reads: the reply, or the error. -/
def readF (l : List UInt8) : TellV × Int :=
  if l.length < 7 then (zeroT, 3)
  else if fieldsM (kdF l) = [] ∨ vl 4 ⟨l, 0⟩ ≠ l.length then (zeroT, 2)
  else if (readX' l).2.e ≠ 0 then (zeroT, (readX' l).2.e)
  else if (readX' l).2.l ≠ [] ∨ mayT (readX' l).1 = false then (zeroT, 2)
  else ((readX' l).1, 0)
/-- A reply no greater than what it is read of. -/
def TC (N : Nat) (t : TellV) : Prop := t.qids.length ≤ 8 ∧ t.data.length ≤ N ∧ t.name.length ≤ N ∧ t.sname.length ≤ N
theorem gqV_len : ∀ (n : Nat) (s : S18), (gqV n s).length ≤ n
  | 0, _ => Nat.le_refl _
  | n + 1, s => by unfold gqV; split <;> simp; exact gqV_len n _
theorem gqS_le : ∀ (n : Nat) (s : S18), (gqS n s).l.length ≤ s.l.length
  | 0, _ => Nat.le_refl _
  | n + 1, s => by unfold gqS; split; exact Nat.le_trans (gqS_le n _) (qidS_le s); exact Nat.le_refl _
theorem gtS_le (f : Int) (s : S18) : (gtS f s).l.length ≤ s.l.length := by
  unfold gtS
  repeat' split
  · exact tk_le _ _
  · exact txL_len _ _
  · exact qidS_le _
  · exact tk_le _ _
  · exact tk_le _ _
  · exact dtL_len _ _ _
  · exact tk_le _ _
  · exact Nat.le_trans (txL_len _ _) (Nat.le_trans (tk_le _ _) (Nat.le_trans (tk_le _ _) (qidS_le _)))
  · exact Nat.zero_le _
  · exact Nat.le_trans (gqS_le _ _) (tk_le _ _)
  · exact Nat.le_refl _
theorem gtT_tc (N : Nat) (f : Int) (t : TellV) (s : S18) (h : TC N t) (hs : s.l.length ≤ N) : TC N (gtT f t s) := by
  obtain ⟨h1, h2, h3, h4⟩ := h
  unfold gtT
  repeat' split
  · exact ⟨h1, h2, h3, h4⟩
  · exact ⟨h1, h2, Nat.le_trans (txB_len18 _ _) hs, h4⟩
  · exact ⟨h1, h2, h3, h4⟩
  · exact ⟨h1, h2, h3, h4⟩
  · exact ⟨h1, h2, h3, h4⟩
  · exact ⟨h1, Nat.le_trans (dtB_len18 _ _ _) hs, h3, h4⟩
  · exact ⟨h1, h2, h3, h4⟩
  · exact ⟨h1, h2, h3, Nat.le_trans (txB_len18 _ _) (Nat.le_trans (Nat.le_trans (tk_le _ _) (Nat.le_trans (tk_le _ _) (qidS_le _))) hs)⟩
  · exact ⟨h1, h2, h3, h4⟩
  · exact ⟨Nat.le_trans (gqV_len _ _) (by omega), h2, h3, h4⟩
  · exact ⟨h1, h2, h3, h4⟩
theorem fieldsM_mem (k : Int) : fieldsM k ∈ fieldsW ∨ fieldsM k = [] := by
  unfold fieldsM
  cases h : fieldsW[kindsW.findIdx (· == k)]? with
  | none => exact .inr rfl
  | some l => exact .inl (List.mem_of_getElem? h)
theorem fieldsM_letter (k : Int) (f : UInt8) (h : f ∈ fieldsM k) : ((f.toNat : Int) = 45 ∨ (f.toNat : Int) = 122 ∨ (f.toNat : Int) = 110 ∨ (f.toNat : Int) = 113 ∨ (f.toNat : Int) = 101 ∨ (f.toNat : Int) = 105 ∨ (f.toNat : Int) = 100 ∨ (f.toNat : Int) = 99 ∨ (f.toNat : Int) = 115 ∨ (f.toNat : Int) = 108) ∧ ((f.toNat : Int) = 108 → fieldsM k = [108]) := by
  rcases fieldsM_mem k with h1 | h1
  · have : ∀ l ∈ fieldsW, ∀ f ∈ l, ((f.toNat : Int) = 45 ∨ (f.toNat : Int) = 122 ∨ (f.toNat : Int) = 110 ∨ (f.toNat : Int) = 113 ∨ (f.toNat : Int) = 101 ∨ (f.toNat : Int) = 105 ∨ (f.toNat : Int) = 100 ∨ (f.toNat : Int) = 99 ∨ (f.toNat : Int) = 115 ∨ (f.toNat : Int) = 108) ∧ ((f.toNat : Int) = 108 → l = [108]) := by decide
    exact this _ h1 f h
  · rw [h1] at h; cases h
theorem RRd.ends {w : World} {B g N : Nat} {l : List UInt8} (h : RRd w B g N l 0) : ∃ I : Nat, I ≤ N ∧ w.cell? ⟨g, 1, none⟩ = some (.int .i64 I) ∧ (I < N ↔ l ≠ []) := by
  obtain ⟨A, n, c, I, b, h1, h2, h3, h4, h5, ⟨_, rfl⟩, h7, _⟩ := h
  refine ⟨I, h5, h1.cell 1 _ rfl, ?_⟩
  rw [h7 rfl, ne_eq, List.drop_eq_nil_iff, h2.len]
  omega
/-- While Read runs: the reader in g, the reply in gX, the result's cell Z. -/
structure RdW (w wi : World) (B g N gX Z : Nat) (cs : List Value) (l : List UInt8) (e : Int) : Prop where
  r : RRd wi B g N l e
  x : Blk wi gX 29 cs
  z : Blk wi Z 29 zero18
  b : Below w.heap.size w wi
  o : w.heap.size ≤ Z ∧ Z < g ∧ g < gX ∧ B ≤ Z
section
variable {w wi w1 : World} {B g N gX Z : Nat} {cs : List Value} {l l' : List UInt8} {e e' : Int}
theorem RdW.call (h : RdW w wi B g N gX Z cs l e) (hR : RRd w1 B g N l' e') (hK : Keeps (Is g) wi w1) : RdW w w1 B g N gX Z cs l' e' := by
  have o := h.o
  have hl := h.x.lt
  exact ⟨hR, h.x.keeps hK (fun e => by have e' : gX = g := e; omega), h.z.keeps hK (fun e => by have e' : Z = g := e; omega), h.b.trans (hK.is (by omega) (by omega)), o⟩
theorem RdW.under (h : RdW w wi B g N gX Z cs l e) {cs' : List Value} (k : Keeps (Is gX) wi w1) (hx : Blk w1 gX 29 cs') : RdW w w1 B g N gX Z cs' l e := by
  have o := h.o
  have hl := h.x.lt
  exact ⟨h.r.below (B' := gX) (k.is (Nat.le_refl _) (by omega)) (by omega), hx, h.z.keeps k (fun e => by have e' : Z = gX := e; omega), h.b.trans (k.is (by omega) (by omega)), o⟩
theorem RdW.set (h : RdW w wi B g N gX Z cs l e) (i : Nat) (v : Value) : RdW w (wi.setCell ⟨gX, i, none⟩ v) B g N gX Z (cs.set i v) l e :=
  h.under ((Keeps.refl (Is gX) _).setCell (p := ⟨gX, i, none⟩) (.inl rfl) _) (h.x.set i v)
theorem RdW.row (h : RdW w wi B g N gX Z cs l e) (cs' : List Value) : RdW w (wi.setRow gX cs'.toArray) B g N gX Z cs' l e :=
  h.under (keeps_setRow _ _) (h.x.setRow cs')
theorem RdW.up (h : RdW w wi B g N gX Z cs l e) (k : Below wi.heap.size wi w1) : RdW w w1 B g N gX Z cs l e :=
  ⟨h.r.up k, h.x.up k, h.z.up k, h.b.trans (k.mono h.b.size), h.o⟩
theorem RdW.drew (h : RdW w wi B g N gX Z cs l e) : RdW w wi.drew B g N gX Z cs l e := ⟨h.r.drew, h.x.drew, h.z.drew, h.b.drew, h.o⟩
end
def RefReadT (l : List UInt8) (w : World) (e : Ending) (w' : World) : Prop :=
  ∃ (x : TellV) (Aq : Option Addr) (nq cq : Nat) (Ad : Option Addr) (nd cd : Nat) (er : Int), Hid (x = (readF l).1) ∧ Hid (er = (readF l).2) ∧ Hid (TC l.length x) ∧ e = .returned (.tuple #[.agg (tellC x Aq nq cq Ad nd cd).toArray, .int .i64 er]) ∧ OwR w' w.heap.size 23 3 Aq nq cq (x.qids.map qidC) ∧ RdB w' w.heap.size Ad nd x.data ∧ Below w.heap.size w w'
theorem zero_postF {l : List UInt8} {w w' : World} {er : Int} (h1 : (readF l) = (zeroT, er)) (hb : Below w.heap.size w w') : RefReadT l w (.returned (.tuple #[.agg (zero18.toArray), .int .i64 er])) w' :=
  ⟨zeroT, none, 0, 0, none, 0, 0, er, Lib.hid (by rw [h1]), Lib.hid (by rw [h1]), Lib.hid ⟨Nat.zero_le _, Nat.zero_le _, Nat.zero_le _, Nat.zero_le _⟩, rfl, OwR.nil _ _ _ _, RdB.nil, hb⟩
def RefReadJ (w : World) (B g N gX Z : Nat) (F : List UInt8) (Y : TellV × S18) (x : Value) (wr : World) : Prop :=
  ∃ (j : Nat) (t : TellV) (s : S18) (Aq : Option Addr) (nq cq : Nat) (Ad : Option Addr) (nd cd : Nat), j ≤ F.length ∧ x = .int .i64 j ∧ Hid (runF (F.drop j) (t, s) = Y) ∧ Hid (s.e = 0) ∧ Hid (j = 0 → Aq = none ∧ nq = 0 ∧ cq = 0 ∧ t.qids = []) ∧ Hid (TC N t ∧ s.l.length ≤ N) ∧ GtOk wr B (gX + 1) t Aq nq cq Ad nd ∧ RdW w wr B g N gX Z (tellC t Aq nq cq Ad nd cd) s.l s.e
set_option maxRecDepth 20000 in
set_option maxHeartbeats 8000000 in
theorem refRead_any (A : Option Addr) (n c : Nat) (l : List UInt8) (w : World) (h : RdB w w.heap.size A n l) (hnc : n ≤ c) (hcm : c ≤ maxLen) (hn : n ≤ 900) :
    Calls Try.prog 25 #[.slice A n c] w (RefReadT l w) := by
  have hln : l.length = n := h.len
  obtain ⟨W, hW⟩ : ∃ W, W = w.alloc (.cells #[.int .i64 0, .int .i64 0, .int .i64 0, .int .i64 0, .int .i64 0, .int .i64 0, .string ⟨#[]⟩, .bool false, .int .i64 0, .int .i64 0, .slice none 0 0, .slice none 0 0, .bool false, .int .i64 0, .int .i64 0, .int .i64 0, .int .i64 0, .string ⟨#[]⟩] 29) := ⟨_, rfl⟩
  obtain ⟨Z, hZ⟩ : ∃ Z, Z = w.heap.size := ⟨_, rfl⟩
  have hZ0 : Blk W Z 29 zero18 := by rw [hW, hZ]; exact Blk.new w 29 zero18
  have hb0 : Below w.heap.size w W := by rw [hW]; exact (Below.refl _ _).alloc (Nat.le_refl _) _
  have HZ := Lib.hid hZ0
  have HB := Lib.hid hb0
  have HZe := Lib.hid hZ
  have HR := Lib.hid (h.below hb0)
  have HLN := Lib.hid hln
  have hZlt := hZ0.lt
  have HCM := Lib.hid hcm
  unfold maxLen at hcm
  clear hZ0 hb0 h hln
  by_cases h7 : n < 7
  · have HRR := Lib.hid (show readF l = (zeroT, 3) by unfold readF; rw [if_pos (by rw [HLN.out]; exact h7)])
    have h7i : (n : Int) < 7 := by omega
    go_enter Try.func25, Try.ntmps25
    go_upto_region 1 with fail
    rw [← hW, ← hZ]
    clear hW hZ
    have hF := HZ.out.setRow zero18
    go_wp2_with (refine wpList_storeBlk rfl (.tmp 2) (.tmp 13) rfl rfl zero18 rfl rfl (by kernel_rfl) HZ.out rfl (by simp [zero18, Value.oneCell']) ?_)
    exact bodyPost_ret (v := .tuple #[.agg zero18.toArray, .int .i64 3]) (results_cellTmp Try.results25 rfl rfl hF (by kernel_rfl) tellT_agg) rfl (zero_postF HRR.out (below_setRow HB.out (Nat.le_of_eq HZe.out.symm) _))
  · have h7i : ¬ (n : Int) < 7 := by omega
    go_enter Try.func25, Try.ntmps25
    go_upto_region 1 with fail
    rw [← hW, ← hZ]
    clear hW hZ
    go_upto_region 4 with fail
    obtain ⟨g, hg⟩ : ∃ g, g = W.heap.size := ⟨_, rfl⟩
    have hbg := Blk.new W 81 [.slice A n c, .int .i64 (0 : Nat), .int .i64 0]
    have hba : Below W.heap.size W (W.alloc (.cells #[.slice A n c, .int .i64 0, .int .i64 0] 81)) := (Below.refl _ _).alloc (Nat.le_refl _) _
    have H1 := Lib.hid (show RRd (W.alloc (.cells #[.slice A n c, .int .i64 0, .int .i64 0] 81)) w.heap.size g n l 0 from ⟨A, n, c, 0, l, by rw [hg]; exact hbg, HR.out.below (hba.mono HB.out.size), hnc, HCM.out, Nat.zero_le _, ⟨by rw [hg]; exact HB.out.size, rfl⟩, fun _ => by simp, fun h => absurd rfl h⟩)
    have HB1 := Lib.hid (HB.out.trans (hba.mono HB.out.size))
    have HZ1 := Lib.hid (HZ.out.up hba)
    have hgZ : Z < g := by omega
    have hZw : w.heap.size ≤ Z := Nat.le_of_eq HZe.out.symm
    have nZ : ¬ Is g Z := fun e => by have e' : Z = g := e; omega
    rw [← hg]
    clear hbg hba hg HB HZ HR
    generalize W.alloc (.cells #[.slice A n c, .int .i64 0, .int .i64 0] 81) = w1 at H1 HB1 HZ1 ⊢
    go_wp2_with fail
    refine (refNumber_any w.heap.size g n l 0 4 _ H1.out (by omega)).mono ?_
    rintro x w2 ⟨v1, l1, e1, hv1, hl1, he1, rfl, hR2, hK2⟩
    have b1 : v1 < 4294967296 := by have := vl_lt 4 ⟨l, 0⟩; rw [show vl 4 ⟨l, 0⟩ = v1 by unfold vl; rw [hv1.out]] at this; simpa using this
    have hwr1 : IntKind.i64.wrap (v1 : Int) = v1 := IntWalk.i64_in _ (by omega)
    have H2 := Lib.hid hR2
    have HB2 := Lib.hid (HB1.out.trans (hK2.is (by omega) (Nat.le_of_lt H1.out.lt)))
    have HZ2 := Lib.hid (HZ1.out.keeps hK2 nZ)
    clear hR2 hK2
    go_wp2_with fail
    refine (refNumber_any w.heap.size g n l1 e1 1 _ H2.out (by omega)).mono ?_
    rintro x w3 ⟨v2, l2, e2, hv2, hl2, he2, rfl, hR3, hK3⟩
    have hs1 : tk 4 ⟨l, 0⟩ = ⟨l1, e1⟩ := by unfold tk; rw [hl1.out, he1.out]
    have hs2 : tk 1 (tk 4 ⟨l, 0⟩) = ⟨l2, e2⟩ := by rw [hs1]; unfold tk; rw [hl2.out, he2.out]
    have hq1 : vl 4 ⟨l, 0⟩ = v1 := by unfold vl; rw [hv1.out]
    have hq2 : vl 1 (tk 4 ⟨l, 0⟩) = v2 := by rw [hs1]; unfold vl; rw [hv2.out]
    have b2 : v2 < 256 := by have := vl_lt 1 (tk 4 ⟨l, 0⟩); rw [hq2] at this; simpa using this
    have hwr2 : IntKind.i64.wrap (v2 : Int) = v2 := IntWalk.i64_in _ (by omega)
    obtain ⟨gX, hgX⟩ : ∃ x, x = w3.heap.size := ⟨_, rfl⟩
    obtain ⟨w4, hw4⟩ : ∃ x, x = w3.alloc (.cells #[.int .i64 0, .int .i64 0, .int .i64 0, .int .i64 0, .int .i64 0, .int .i64 0, .string ⟨#[]⟩, .bool false, .int .i64 0, .int .i64 0, .slice none 0 0, .slice none 0 0, .bool false, .int .i64 0, .int .i64 0, .int .i64 0, .int .i64 0, .string ⟨#[]⟩] 29) := ⟨_, rfl⟩
    have hXa : Blk w4 gX 29 zero18 := by rw [hw4, hgX]; exact Blk.new w3 29 zero18
    have hb3 : Below w.heap.size w w3 := HB2.out.trans (hK3.is (by omega) (Nat.le_of_lt H2.out.lt))
    have hba : Below w3.heap.size w3 w4 := by rw [hw4]; exact (Below.refl _ _).alloc (Nat.le_refl _) _
    have hgg : g < gX := by rw [hgX]; exact hR3.lt
    have h4 : RdW w w4 w.heap.size g n gX Z zero18 l2 e2 := ⟨hR3.up hba, hXa, (HZ2.out.keeps hK3 nZ).up hba, hb3.trans (hba.mono hb3.size), hZw, hgZ, hgg, hZw⟩
    have H5 := Lib.hid (h4.row (tellC (bareT v2 0) none 0 0 none 0 0))
    have HS2 := Lib.hid hs2
    have HQ1 := Lib.hid hq1
    have HQ2 := Lib.hid hq2
    have HW4 := Lib.hid hw4
    have HGX := Lib.hid hgX
    clear hb3 hba h4 hR3 hK3 hw4 hgX hs1 hs2 hq1 hq2 hv1 hv2 hl1 hl2 he1 he2
    go_upto_region 6 with (rw [← HW4.out, ← HGX.out]; refine wpList_storeBlk rfl (.tmp 6) (.tmp 23) rfl rfl (tellC (bareT v2 0) none 0 0 none 0 0) rfl rfl (by kernel_rfl) hXa rfl (by simp [tellC, bareT, qidZ, Value.oneCell']) ?_)
    clear hXa HW4 HGX
    generalize w4.setRow gX (tellC (bareT v2 0) none 0 0 none 0 0).toArray = w5 at H5 ⊢
    go_wp2_with fail
    refine (refNumber_any w.heap.size g n l2 e2 2 _ H5.out.r (by omega)).mono ?_
    rintro x w6 ⟨v3, l3, e3, hv3, hl3, he3, rfl, hR6, hK6⟩
    have hs3 : hdF l = ⟨l3, e3⟩ := by unfold hdF; rw [HS2.out]; unfold tk; rw [hl3.out, he3.out]
    have hq3 : vl 2 (tk 1 (tk 4 ⟨l, 0⟩)) = v3 := by rw [HS2.out]; unfold vl; rw [hv3.out]
    have b3 : v3 < 65536 := by have := vl_lt 2 (tk 1 (tk 4 ⟨l, 0⟩)); rw [hq3] at this; simpa using this
    have hwr3 : IntKind.i64.wrap (v3 : Int) = v3 := IntWalk.i64_in _ (by omega)
    have h6 := H5.out.call hR6 hK6
    have x1 := h6.x.cell 1 _ rfl
    have f1 := h6.x.free 1
    have H7 := Lib.hid (show RdW w (w6.setCell ⟨gX, 1, none⟩ (.int .i64 v3)) w.heap.size g n gX Z (tellC (bareT v2 v3) none 0 0 none 0 0) l3 e3 from h6.set 1 (.int .i64 v3))
    have HS3 := Lib.hid hs3
    have HQ3 := Lib.hid hq3
    have HX := Lib.hid (show readX' l = runF (fieldsM v2) (bareT v2 v3, ⟨l3, e3⟩) by unfold readX' kdF; rw [HQ2.out, hq3, hs3])
    clear hR6 hK6 h6 hs3 hq3 hv3 hl3 he3
    go_upto_region 7 with fail
    generalize w6.setCell ⟨gX, 1, none⟩ (.int .i64 v3) = w7 at H7 ⊢
    clear x1 f1 hwr1 hwr2 hwr3
    have x0 := H7.out.x.cell 0 _ rfl
    go_wp2_with fail
    refine (tFields_any v2 _).mono ?_
    rintro e w8 ⟨rfl, hb8⟩
    obtain ⟨F, hF⟩ : ∃ F, F = fieldsM v2 := ⟨_, rfl⟩
    have H8 := Lib.hid (H7.out.up hb8)
    have hsz : (st F).size = F.length := st_size F
    have hl4 : F.length ≤ 4 := by rw [hF]; exact fieldsM_len _
    have HFE := Lib.hid hF
    rw [← hF]
    clear hb8 x0 hF
    by_cases hbad : F = [] ∨ v1 ≠ n
    · have HRR := Lib.hid (show readF l = (zeroT, 2) by
        unfold readF
        rw [if_neg (by rw [HLN.out]; exact h7), if_pos ?_]
        rw [HQ1.out, HLN.out]; unfold kdF; rw [HQ2.out, ← HFE.out]; exact hbad)
      have hF := H8.out.z.setRow zero18
      by_cases hnil : F = []
      · have t0 : (st F == ByteArray.empty) = true := by rw [hnil]; rfl
        subst hnil
        clear hbad
        go_wp2_with (refine wpList_storeBlk rfl (.tmp 2) (.tmp 39) rfl rfl zero18 rfl rfl (by kernel_rfl) H8.out.z rfl (by simp [zero18, Value.oneCell']) ?_)
        exact bodyPost_ret (v := .tuple #[.agg zero18.toArray, .int .i64 2]) (results_cellTmp Try.results25 rfl rfl hF (by kernel_rfl) tellT_agg) rfl (zero_postF HRR.out (below_setRow H8.out.b hZw _))
      · have hv : v1 ≠ n := hbad.resolve_left hnil
        have t1 : ¬ (v1 : Int) = n := by omega
        have t2 : ((v1 : Int) != n) = true := by simp; omega
        have hsl : ¬ F.length = 0 := fun e => hnil (List.length_eq_zero_iff.1 e)
        have hse := Lib.hid hsl
        have t3 : F.isEmpty = false := by cases F with | nil => exact absurd rfl hnil | cons a b => rfl
        clear hbad hnil hv hsl
        go_wp2_with (refine wpList_storeBlk rfl (.tmp 2) (.tmp 39) rfl rfl zero18 rfl rfl (by kernel_rfl) H8.out.z rfl (by simp [zero18, Value.oneCell']) ?_)
        exact bodyPost_ret (v := .tuple #[.agg zero18.toArray, .int .i64 2]) (results_cellTmp Try.results25 rfl rfl hF (by kernel_rfl) tellT_agg) rfl (zero_postF HRR.out (below_setRow H8.out.b hZw _))
    · obtain ⟨hnil, hv⟩ : F ≠ [] ∧ v1 = n := by
        rcases Decidable.em (F = []) with e | e
        · exact absurd (.inl e) hbad
        · exact ⟨e, Decidable.not_not.1 fun e' => hbad (.inr e')⟩
      obtain rfl : v1 = n := hv
      have hsl : ¬ F.length = 0 := fun e => hnil (List.length_eq_zero_iff.1 e)
      have t3 : F.isEmpty = false := by cases F with | nil => exact absurd rfl hnil | cons a b => rfl
      have HRD := Lib.hid (show readF l = if (readX' l).2.e ≠ 0 then (zeroT, (readX' l).2.e) else if (readX' l).2.l ≠ [] ∨ mayT (readX' l).1 = false then (zeroT, 2) else ((readX' l).1, 0) by
        rw [readF, if_neg (by rw [HLN.out]; exact h7), if_neg ?_]
        rw [HQ1.out, HLN.out]; unfold kdF; rw [HQ2.out, ← HFE.out]; exact hbad)
      have HE3 := Lib.hid (show e3 = 0 by have e := HS3.out; rw [hdF_ok l (by rw [HLN.out]; omega)] at e; injection e with _ e2; exact e2.symm)
      have HL3 := Lib.hid (show l3.length ≤ v1 by have e := HS3.out; have : (hdF l).l.length ≤ l.length := Nat.le_trans (tk_le _ _) (Nat.le_trans (tk_le _ _) (tk_le _ _)); rw [e, HLN.out] at this; exact this)
      obtain ⟨Y, hY⟩ : ∃ Y, Y = readX' l := ⟨_, rfl⟩
      have HY := Lib.hid hY
      have HYR := Lib.hid (show runF F (bareT v2 v3, ⟨l3, e3⟩) = Y by rw [hY, HX.out, HFE.out])
      clear hbad hnil hsl hY
      go_upto_region 10 with fail
      clear t3
      go_wp2
      go_loopw [8] (fun x wr => RefReadJ w w.heap.size g v1 gX Z F Y x wr) (fun x _ => F.length - (intOf x).toNat)
      case atStart => exact ⟨0, bareT v2 v3, ⟨l3, e3⟩, none, 0, 0, none, 0, 0, by omega, rfl, Lib.hid HYR.out, Lib.hid HE3.out, Lib.hid fun _ => ⟨rfl, rfl, rfl, rfl⟩, Lib.hid ⟨⟨Nat.zero_le _, Nat.zero_le _, Nat.zero_le _, Nat.zero_le _⟩, HL3.out⟩, ⟨OwR.nil _ _ _ _, RdB.nil⟩, H8.out⟩
      case round =>
        obtain ⟨j, t, s, Aq, nq, cq, Ad, nd, cd, hj, rfl, hrun, hse, hnil, htc, hok, hw⟩ := hrel
        by_cases hlt : j < F.length
        · have j1 : (j : Int) < F.length := by omega
          have j0 : (0 : Int) ≤ j := by omega
          obtain ⟨f, hx, hfm, hdr⟩ : ∃ f : UInt8, (∀ h : j < (st F).size, (st F)[j]'h = f) ∧ f ∈ F ∧ F.drop j = f :: F.drop (j + 1) :=
            ⟨F[j], fun h => rfl, List.getElem_mem hlt, List.drop_eq_getElem_cons hlt⟩
          have hlet := fieldsM_letter v2 f (by rw [← HFE.out]; exact hfm)
          have HLET := Lib.hid hlet.1
          have HNIL := Lib.hid (show (f.toNat : Int) = 108 → Aq = none ∧ nq = 0 ∧ cq = 0 ∧ t.qids = [] from fun e => hnil.out (by have := hlet.2 e; rw [← HFE.out] at this; rw [this] at hlt; simp at hlt; exact hlt))
          have hrn := hrun.out
          rw [hdr] at hrn
          have HRN := Lib.hid (show (if (gtS f.toNat s).e ≠ 0 then (gtT f.toNat t s, gtS f.toNat s) else runF (F.drop (j + 1)) (gtT f.toNat t s, gtS f.toNat s)) = Y from hrn)
          have HT := Lib.hid (show TC v1 (gtT f.toNat t s) ∧ (gtS f.toNat s).l.length ≤ v1 from ⟨gtT_tc _ _ _ _ htc.out.1 htc.out.2, Nat.le_trans (gtS_le _ _) htc.out.2⟩)
          have HG := Lib.hid hw.drew
          have HOK := Lib.hid (show GtOk wr.drew w.heap.size (gX + 1) t Aq nq cq Ad nd from ⟨hok.q.drew, hok.d.drew⟩)
          have hxl := hw.x.lt
          clear hlet hrn hdr hfm hok hw hrun hse hnil htc
          go_upto_region 13 with fail
          refine wp_region_tr (Two18 g gX) (.t 0 (.t 2 (.t 3 (.t 4 (.s 1 (.s 5 (.s 6 .nil))))))) (by kernel_rfl) (by kernel_rfl) ?_
          repeat (refine tr_take (by simp only [List.getElem?_toArray, List.getElem?_cons_succ, List.getElem?_cons_zero]; exact rfl) ?_; go_big_quiet_step (fail); refine wpQuiet_nil ?_)
          clear hx
          have hX := HG.out.x
          refine tr_solo (by simp only [List.getElem?_toArray, List.getElem?_cons_succ, List.getElem?_cons_zero]; exact rfl) ?_
          refine wpList_loadBlk rfl (.tmp 6) rfl rfl (by kernel_rfl) tellT_agg hX ?_
          simp only [Act.put, List.setIfInBounds_toArray, List.set_cons_succ, List.set_cons_zero]
          refine wpList_nil ?_
          refine Solo.mk (Keeps.refl _ _) ?_
          clear hX
          refine tr_solo (by simp only [List.getElem?_toArray, List.getElem?_cons_succ, List.getElem?_cons_zero]; exact rfl) ?_
          go_wp2_with fail
          refine (refGet_any f.toNat HLET.out wr.drew w.heap.size g v1 (gX + 1) (by have := HG.out.o; omega) HG.out.x.lt t s Aq nq cq Ad nd cd HG.out.r HOK.out HNIL.out).mono ?_
          rintro e w9 ⟨t9, s9, Aq9, nq9, cq9, Ad9, nd9, cd9, ht9, hs9, rfl, hok9, hR9, hK9, _⟩
          have h9 := HG.out.call hR9 hK9
          have hX9 := h9.x
          have H10 := Lib.hid (h9.row (tellC t9 Aq9 nq9 cq9 Ad9 nd9 cd9))
          have hks := keeps_setRow w9 (g := gX) (tellC t9 Aq9 nq9 cq9 Ad9 nd9 cd9).toArray
          have HOK10 := Lib.hid (show GtOk (w9.setRow gX (tellC t9 Aq9 nq9 cq9 Ad9 nd9 cd9).toArray) w.heap.size (gX + 1) t9 Aq9 nq9 cq9 Ad9 nd9 from ⟨OwR.keeps hok9.q hks (fun k hk e => by have e' : k = gX := e; omega), hok9.d.below (hks.is (by have := h9.o; omega) (Nat.le_of_lt hX9.lt))⟩)
          have hkg : Keeps (Two18 g gX) wr.drew w9 := hK9.mono (fun k _ e => .inl e)
          clear hok9 hR9 hK9 h9 hks
          go_wp2
          refine Solo.mk hkg ?_
          clear hkg
          refine tr_solo (by simp only [List.getElem?_toArray, List.getElem?_cons_succ, List.getElem?_cons_zero]; exact rfl) ?_
          refine wpList_storeBlk rfl (.tmp 6) (.tmp 51) rfl rfl (tellC t9 Aq9 nq9 cq9 Ad9 nd9 cd9) rfl rfl (by kernel_rfl) hX9 rfl (tellC_one _ _ _ _ _ _ _) ?_
          refine wpList_nil ?_
          refine Solo.mk ((keeps_setRow _ _).mono (fun k _ e => .inr e)) ?_
          refine tr_end ?_
          clear hX9
          generalize w9.setRow gX (tellC t9 Aq9 nq9 cq9 Ad9 nd9 cd9).toArray = wa at H10 HOK10 ⊢
          have c2 := RRd.c2 H10.out.r
          by_cases he9 : s9.e = 0
          · have t0 : (s9.e != 0) = false := by rw [he9]; rfl
            have HE9 := Lib.hid he9
            have HRN2 := Lib.hid (show runF (F.drop (j + 1)) (t9, s9) = Y by rw [← HRN.out, if_neg (by rw [← hs9.out]; exact fun h => h he9), ht9.out, hs9.out])
            clear he9
            go_wp2
            go_roundw
            case rel => exact ⟨j + 1, t9, s9, Aq9, nq9, cq9, Ad9, nd9, cd9, by omega, by go_num, Lib.hid HRN2.out, Lib.hid HE9.out, Lib.hid (fun e => by omega), Lib.hid (by rw [ht9.out, hs9.out]; exact HT.out), HOK10.out, H10.out⟩
            case measure => simp [intOf]; omega
          · have t0 : (s9.e != 0) = true := by simp [he9]
            have hYe : Y = (t9, s9) := by rw [← HRN.out, if_pos (by rw [← hs9.out]; exact he9), ht9.out, hs9.out]
            have HRR := Lib.hid (show readF l = (zeroT, s9.e) by rw [HRD.out, ← HY.out, hYe, if_pos he9])
            clear hYe he9
            go_upto_region 15 with fail
            clear t0 c2
            have HGa := Lib.hid H10.out.drew
            have c2 := cell_abv (G := Is Z) (RRd.c2 HGa.out.r) (fun e => by have e' : g = Z := e; omega)
            refine wp_region_tr (Is Z) (.t 1 (.t 2 (.t 3 (.t 4 (.s 0 (.s 5 (.t 6 .nil))))))) (by kernel_rfl) (by kernel_rfl) ?_
            repeat (refine tr_take (by simp only [List.getElem?_toArray, List.getElem?_cons_succ, List.getElem?_cons_zero]; exact rfl) ?_; go_big_quiet_step (fail); refine wpQuiet_nil ?_)
            clear c2
            refine tr_solo (by simp only [List.getElem?_toArray, List.getElem?_cons_succ, List.getElem?_cons_zero]; exact rfl) ?_
            go_wp2
            refine Solo.mk (Keeps.refl _ _) ?_
            refine tr_solo (by simp only [List.getElem?_toArray, List.getElem?_cons_succ, List.getElem?_cons_zero]; exact rfl) ?_
            refine wpList_storeBlk rfl (.tmp 2) (.tmp 57) rfl rfl zero18 rfl rfl (by kernel_rfl) HGa.out.z rfl (by simp [zero18, Value.oneCell']) ?_
            refine wpList_nil ?_
            refine Solo.mk (keeps_setRow _ _) ?_
            repeat (refine tr_take (by simp only [List.getElem?_toArray, List.getElem?_cons_succ, List.getElem?_cons_zero]; exact rfl) ?_; go_big_quiet_step (fail); refine wpQuiet_nil ?_)
            refine tr_end ?_
            have hF := HGa.out.z.setRow zero18
            go_wp2
            exact bodyPost_ret (v := .tuple #[.agg zero18.toArray, .int .i64 s9.e]) (results_cellTmp Try.results25 rfl rfl hF (by kernel_rfl) tellT_agg) rfl (zero_postF HRR.out (below_setRow HGa.out.b hZw _))
        · obtain rfl : j = F.length := by omega
          have hYe := hrun.out
          rw [List.drop_length] at hYe
          have hYe : Y = (t, s) := hYe.symm
          have hse' := hse.out
          obtain ⟨sl, se⟩ := s
          obtain rfl : se = 0 := hse'
          obtain ⟨I, hI, c1, hIn⟩ := RRd.ends hw.r
          have HIN := Lib.hid hIn
          have hdl : nd ≤ 900 := by have := hok.d.len; have h2 := htc.out.1.2.1; omega
          have hql : nq ≤ 8 := by have := hok.q.len; have h2 := htc.out.1.1; rw [List.length_map] at this; omega
          have hnl := htc.out.1.2.2
          have htl : TellRd wr t Aq nq cq Ad nd cd := ⟨hok.q.rd, hok.d.more hw.b.size, by omega, by omega, by omega, by omega⟩
          have HRD2 := Lib.hid (show readF l = if sl ≠ [] ∨ mayT t = false then (zeroT, 2) else (t, 0) by rw [HRD.out, ← HY.out, hYe, if_neg (by simp)])
          have HG := Lib.hid hw
          have HOK := Lib.hid hok
          have HTC := Lib.hid htc.out.1
          have HTL := Lib.hid htl
          have hX := hw.x
          clear hw hok htc htl hnl hql hdl hrun hse hnil hYe hIn
          go_upto_region 16 with fail
          clear c1
          go_wp2_with (refine wpList_loadBlk rfl (.tmp 6) rfl rfl (by kernel_rfl) tellT_agg hX ?_; simp only [Act.put, List.setIfInBounds_toArray, List.set_cons_succ, List.set_cons_zero])
          refine (refMay_any t Aq nq cq Ad nd cd _ HTL.out).mono ?_
          rintro e wb ⟨rfl, hbb⟩
          have HGb := Lib.hid (HG.out.up hbb)
          have HQb := Lib.hid (HOK.out.q.up hbb)
          have HDb := Lib.hid (HOK.out.d.below (hbb.mono HG.out.b.size))
          obtain ⟨I, hI, c1, hIn⟩ := RRd.ends HGb.out.r
          have HIN := Lib.hid hIn
          have hF := HGb.out.z.setRow zero18
          have hF2 := HGb.out.z.setRow (tellC t Aq nq cq Ad nd cd)
          have hX := HGb.out.x
          obtain ⟨m, hm⟩ : ∃ m, m = mayT t := ⟨_, rfl⟩
          rw [← hm]
          have HM := Lib.hid hm
          clear hbb hIn hm
          by_cases hlt2 : I < v1
          · have j1 : (I : Int) < v1 := by omega
            have HRR := Lib.hid (show readF l = (zeroT, 2) by rw [HRD2.out, if_pos (.inl (HIN.out.1 hlt2))])
            clear hX hF2
            go_wp2_with (refine wpList_storeBlk rfl (.tmp 2) (.tmp 75) rfl rfl zero18 rfl rfl (by kernel_rfl) HGb.out.z rfl (by simp [zero18, Value.oneCell']) ?_)
            exact bodyPost_ret (v := .tuple #[.agg zero18.toArray, .int .i64 2]) (results_cellTmp Try.results25 rfl rfl hF (by kernel_rfl) tellT_agg) rfl (zero_postF HRR.out (below_setRow HGb.out.b hZw _))
          · have j1 : ¬ (I : Int) < v1 := by omega
            rcases m with _ | _
            · have HRR := Lib.hid (show readF l = (zeroT, 2) by rw [HRD2.out, if_pos (.inr HM.out.symm)])
              clear hX hF2
              go_wp2_with (refine wpList_storeBlk rfl (.tmp 2) (.tmp 75) rfl rfl zero18 rfl rfl (by kernel_rfl) HGb.out.z rfl (by simp [zero18, Value.oneCell']) ?_)
              exact bodyPost_ret (v := .tuple #[.agg zero18.toArray, .int .i64 2]) (results_cellTmp Try.results25 rfl rfl hF (by kernel_rfl) tellT_agg) rfl (zero_postF HRR.out (below_setRow HGb.out.b hZw _))
            · have HRR := Lib.hid (show readF l = (t, 0) by
                rw [HRD2.out, if_neg]
                rintro (h1 | h1)
                · exact hlt2 (HIN.out.2 h1)
                · rw [← HM.out] at h1; cases h1)
              clear hF
              have HQ9 := Lib.hid (OwR.keeps HQb.out (keeps_setRow wb (g := Z) (tellC t Aq nq cq Ad nd cd).toArray) (fun k hk e => by have e' : k = Z := e; have := HGb.out.o; omega))
              have HD9 := Lib.hid (HDb.out.below (below_setRow (Below.refl w.heap.size wb) hZw (tellC t Aq nq cq Ad nd cd).toArray))
              go_wp2_with first
                | (refine wpList_loadBlk rfl (.tmp 6) rfl rfl (by kernel_rfl) tellT_agg hX ?_; simp only [Act.put, List.setIfInBounds_toArray, List.set_cons_succ, List.set_cons_zero])
                | (refine wpList_storeBlk rfl (.tmp 2) (.tmp 76) rfl rfl (tellC t Aq nq cq Ad nd cd) rfl rfl (by kernel_rfl) HGb.out.z rfl (tellC_one _ _ _ _ _ _ _) ?_)
              exact bodyPost_ret (v := .tuple #[.agg (tellC t Aq nq cq Ad nd cd).toArray, .int .i64 0]) (results_cellTmp Try.results25 rfl rfl hF2 (by kernel_rfl) tellT_agg) rfl ⟨t, Aq, nq, cq, Ad, nd, cd, 0, Lib.hid (by rw [HRR.out]), Lib.hid (by rw [HRR.out]), Lib.hid (by rw [HLN.out]; exact HTC.out), rfl, HQ9.out.lower (by have := HGb.out.o; omega), HD9.out, below_setRow HGb.out.b hZw _⟩

theorem tk_bad (n : Nat) (s : S18) (h : s.e ≠ 0) : (tk n s).e = s.e := by unfold tk nxE; simp [h]
theorem tk_bad' (n : Nat) (s : S18) (h : s.e ≠ 0) : (tk n s).e ≠ 0 := by rw [tk_bad n s h]; exact h
theorem qidS_bad (s : S18) (h : s.e ≠ 0) : (qidS s).e = s.e := by
  unfold qidS; rw [tk_bad _ _ (tk_bad' _ _ (tk_bad' _ _ h)), tk_bad _ _ (tk_bad' _ _ h), tk_bad _ _ h]
theorem tx_bad (s : S18) (h : s.e ≠ 0) : txE s.l s.e = s.e := by
  have h1 : nxE s.l s.e 2 = s.e := tk_bad 2 s h
  unfold txE; rw [h1]; unfold nxE; simp [h]
theorem qsS_bad : ∀ (n : Nat) (s : S18), s.e ≠ 0 → (qsS n s).e = s.e
  | 0, _, _ => rfl
  | n + 1, s, h => by rw [qsS, qsS_bad n (qidS s) (by rw [qidS_bad s h]; exact h), qidS_bad s h]
/-- What may be has numbers that are in range. -/
structure OkQ (t : TellV) : Prop where
  qs : ∀ q ∈ t.qids, qidOk q = true
  q : qidOk t.qid = true
  s : qidOk t.sqid = true
  z : inB t.ssize 4611686018427387904 = true
theorem may_okQ (t : TellV) (h : mayT t = true) : OkQ t := by
  unfold mayT at h
  simp only [Bool.and_eq_true, List.all_eq_true] at h
  exact ⟨h.1.1.1.1.1.1.1.2, h.1.1.1.1.1.1.2, h.1.1.1.1.1.2, h.2⟩
/-- Two replies, read by the two: alike, or each may not be. -/
def Cl (x y : TellV) (wr : Bool) : Prop := (x = y ∧ wr = false) ∨ (¬ OkQ y ∧ (wr = true ∨ ¬ OkQ x))
theorem wrap_bad (n : Nat) (h1 : 4611686018427387904 < n) (h2 : n < 18446744073709551616) : inB (RowKit.wrap64 (n : Int)) 4611686018427387904 = false := by
  rw [Bool.eq_false_iff, ne_eq, inB_iff]
  unfold RowKit.wrap64
  omega
theorem wrap_ok (n : Nat) (h1 : n ≤ 4611686018427387904) : RowKit.wrap64 (n : Int) = n := by
  unfold RowKit.wrap64; omega
theorem long_cl (n : Nat) (h : n < 18446744073709551616) : (RowKit.wrap64 (n : Int) = lgV n) ∨ (inB (RowKit.wrap64 (n : Int)) 4611686018427387904 = false ∧ inB (lgV n) 4611686018427387904 = false) := by
  by_cases h1 : 4611686018427387904 < n
  · exact .inr ⟨wrap_bad n h1 h, by unfold lgV; rw [if_pos h1]; decide⟩
  · left; unfold lgV; rw [if_neg h1, wrap_ok n (by omega)]
theorem vl8_lt (s : S18) : vl 8 s < 18446744073709551616 := by have := vl_lt 8 s; simpa using this
theorem qid_cl (s : S18) : (qidV s = qdV s ∧ qidW s = false) ∨ (qidOk (qdV s) = false ∧ (qidW s = true ∨ qidOk (qidV s) = false)) := by
  by_cases hk : vl 1 s = 0 ∨ vl 1 s = 128
  · have hw : qidW s = false := by
      unfold qidW
      rcases hk with h | h <;> simp [h]
    rcases long_cl (vl 8 (tk 4 (tk 1 s))) (vl8_lt _) with h | ⟨h1, h2⟩
    · left
      refine ⟨?_, hw⟩
      unfold qidV qdV
      rw [if_pos hk, h]
    · right
      refine ⟨?_, .inr ?_⟩
      · unfold qdV qidOk; rw [if_pos hk]; simp only [h2, Bool.and_false]
      · unfold qidV qidOk; simp only [h1, Bool.and_false]
  · right
    refine ⟨?_, .inl ?_⟩
    · unfold qdV qidOk; rw [if_neg hk]; simp [inB]
    · unfold qidW
      rw [not_or] at hk
      simp [hk.1, hk.2]
/-- Qids that are read without an error. -/
theorem qs_cl : ∀ (n : Nat) (s : S18), (gqS n s).e = 0 → gqS n s = qsS n s ∧ ((qsV n s = gqV n s ∧ qsW n s = false) ∨ ((∃ q ∈ gqV n s, qidOk q = false) ∧ (qsW n s = true ∨ ∃ q ∈ qsV n s, qidOk q = false)))
  | 0, s, h => ⟨rfl, .inl ⟨rfl, rfl⟩⟩
  | n + 1, s, h => by
    have he : s.e = 0 := by
      rcases Decidable.em (s.e = 0) with e | e
      · exact e
      · rw [gqS_bad _ _ e] at h; exact h
    rw [gqS, if_pos he] at h
    obtain ⟨h1, h2⟩ := qs_cl n (qidS s) h
    refine ⟨by rw [gqS, if_pos he, qsS, h1], ?_⟩
    rw [gqV, if_pos he, qsV, qsW]
    rcases qid_cl s with ⟨a1, a2⟩ | ⟨a1, a2⟩
    · rcases h2 with ⟨b1, b2⟩ | ⟨⟨q, b1, b1'⟩, b2⟩
      · exact .inl ⟨by rw [a1, b1], by rw [a2, b2]; rfl⟩
      · refine .inr ⟨⟨q, List.mem_cons_of_mem _ b1, b1'⟩, ?_⟩
        rcases b2 with b2 | ⟨q2, b2, b2'⟩
        · exact .inl (by rw [b2, Bool.or_true])
        · exact .inr ⟨q2, List.mem_cons_of_mem _ b2, b2'⟩
    · refine .inr ⟨⟨_, List.mem_cons_self, a1⟩, ?_⟩
      rcases a2 with a2 | a2
      · exact .inl (by rw [a2]; rfl)
      · exact .inr ⟨_, List.mem_cons_self, a2⟩
theorem qs_err : ∀ (n : Nat) (s : S18), (gqS n s).e ≠ 0 → (qsS n s).e = (gqS n s).e
  | 0, s, h => rfl
  | n + 1, s, h => by
    by_cases he : s.e = 0
    · rw [gqS, if_pos he] at h ⊢; exact qs_err n (qidS s) h
    · rw [gqS_bad _ _ he, qsS_bad _ _ he]
/-- What both have read. -/
structure Both (x : TellV × Bool × Bool × S18) (y : TellV × S18) : Prop where
  over : x.2.1 = true → y.2.e = 4
  err : x.2.1 = false → y.2.e ≠ 0 → x.2.2.2.e = y.2.e
  ok : y.2.e = 0 → x.2.1 = false ∧ x.2.2.2 = y.2 ∧ Cl x.1 y.1 x.2.2.1
theorem both_qid (x0 : TellV) (hq : OkQ x0) (s : S18) : Cl { x0 with qid := qidV s } { x0 with qid := qdV s } (qidW s) := by
  rcases qid_cl s with ⟨a1, a2⟩ | ⟨a1, a2⟩
  · exact .inl ⟨by rw [a1], a2⟩
  · refine .inr ⟨fun h => ?_, ?_⟩
    · have := h.q; rw [show ({ x0 with qid := qdV s } : TellV).qid = qdV s from rfl, a1] at this; cases this
    · rcases a2 with a2 | a2
      · exact .inl a2
      · exact .inr fun h => by have := h.q; rw [show ({ x0 with qid := qidV s } : TellV).qid = qidV s from rfl, a2] at this; cases this
theorem runF_one (f : UInt8) (x : TellV × S18) : runF [f] x = (gtT f.toNat x.1 x.2, gtS f.toNat x.2) := by
  unfold runF; split <;> rfl
theorem runF_two (f f' : UInt8) (x : TellV × S18) (y : TellV) (s : S18) (h : (gtT f.toNat x.1 x.2, gtS f.toNat x.2) = (y, s)) : runF [f, f'] x = if s.e ≠ 0 then (y, s) else (gtT f'.toNat y s, gtS f'.toNat s) := by
  have h2 : gtS f.toNat x.2 = s := (Prod.mk.inj h).2
  show (if (gtS f.toNat x.2).e ≠ 0 then (gtT f.toNat x.1 x.2, gtS f.toNat x.2) else runF [f'] (gtT f.toNat x.1 x.2, gtS f.toNat x.2)) = _
  rw [h, h2, runF_one]
theorem both_one (k : Int) (f : UInt8) (x0 : TellV) (s : S18) (hT : rpT k x0 s = gtT f.toNat x0 s) (hS : rpS k s = gtS f.toNat s) (hO : rpO k s = false) (hW : rpW k s = false) :
    Both ([k].foldl stepR (x0, false, false, s)) (runF [f] (x0, s)) := by
  rw [runF_one]
  show Both (rpT k x0 s, false || rpO k s, false || rpW k s, rpS k s) _
  rw [hT, hS, hO, hW]
  exact ⟨fun h => (by cases h), fun _ _ => rfl, fun _ => ⟨rfl, rfl, .inl ⟨rfl, rfl⟩⟩⟩
theorem both_108 (x0 : TellV) (hq : OkQ x0) (s : S18) : Both ([6].foldl stepR (x0, false, false, s)) (runF [108] (x0, s)) := by
  rw [runF_one]
  show Both ({ x0 with qids := qsrV s }, false || qsrO s, false || qsrW s, qsrS s) (if 8 < vl 2 s then x0 else { x0 with qids := gqV (vl 2 s) (tk 2 s) }, if 8 < vl 2 s then ⟨[], 4⟩ else gqS (vl 2 s) (tk 2 s))
  by_cases h : 8 < vl 2 s
  · rw [if_pos h, if_pos h, show qsrO s = true from decide_eq_true h]
    exact ⟨fun _ => rfl, fun h => (by cases h), fun h => (by cases h)⟩
  · have h' : vl 2 s ≤ 8 := by omega
    rw [if_neg h, if_neg h, show qsrO s = false from decide_eq_false h, show qsrV s = qsV (vl 2 s) (tk 2 s) from if_pos h', show qsrW s = qsW (vl 2 s) (tk 2 s) from if_pos h', show qsrS s = qsS (vl 2 s) (tk 2 s) from if_pos h']
    refine ⟨fun h => (by cases h), fun _ h => qs_err _ _ h, fun h => ?_⟩
    obtain ⟨a, b⟩ := qs_cl _ _ h
    refine ⟨rfl, a.symm, ?_⟩
    rcases b with ⟨b1, b2⟩ | ⟨⟨q, b1, b1'⟩, b2⟩
    · exact .inl ⟨by rw [b1], b2⟩
    · refine .inr ⟨fun h => ?_, ?_⟩
      · have := h.qs q b1; rw [b1'] at this; cases this
      · rcases b2 with b2 | ⟨q2, b2, b2'⟩
        · exact .inl b2
        · exact .inr fun h => by have := h.qs q2 b2; rw [b2'] at this; cases this
theorem both_113 (x0 : TellV) (hq : OkQ x0) (s : S18) : Both ([5].foldl stepR (x0, false, false, s)) (runF [113] (x0, s)) := by
  rw [runF_one]
  exact ⟨fun h => (by cases h), fun _ _ => rfl, fun _ => ⟨rfl, rfl, both_qid x0 hq s⟩⟩
theorem both_115 (x0 : TellV) (hq : OkQ x0) (s : S18) : Both ([8].foldl stepR (x0, false, false, s)) (runF [115] (x0, s)) := by
  rw [runF_one]
  refine ⟨fun h => (by cases h), fun _ _ => rfl, fun _ => ⟨rfl, rfl, ?_⟩⟩
  show Cl { x0 with sqid := qidV s, smode := statM s, ssize := statZ s, sname := statN s } { x0 with sqid := qdV s, smode := statM s, ssize := lgV (vl 8 (tk 4 (qidS s))), sname := statN s } (qidW s)
  rcases qid_cl s with ⟨a1, a2⟩ | ⟨a1, a2⟩
  · rcases long_cl (vl 8 (tk 4 (qidS s))) (vl8_lt _) with h | ⟨h1, h2⟩
    · exact .inl ⟨by rw [a1, show statZ s = lgV (vl 8 (tk 4 (qidS s))) from h], a2⟩
    · exact .inr ⟨fun h => by have := h.z; rw [h2] at this; exact Bool.noConfusion this, .inr fun h => by have := h.z; rw [show inB (statZ s) 4611686018427387904 = false from h1] at this; exact Bool.noConfusion this⟩
  · refine .inr ⟨fun h => ?_, ?_⟩
    · have := h.s; rw [a1] at this; cases this
    · rcases a2 with a2 | a2
      · exact .inl a2
      · exact .inr fun h => by have := h.s; rw [a2] at this; cases this
theorem both_two (x0 : TellV) (hq : OkQ x0) (s : S18) : Both ([5, 1].foldl stepR (x0, false, false, s)) (runF [113, 105] (x0, s)) := by
  rw [runF_two 113 105 (x0, s) { x0 with qid := qdV s } (qidS s) rfl]
  show Both ({ x0 with qid := qidV s, iounit := (vl 4 (qidS s) : Int) }, false, (false || qidW s) || false, tk 4 (qidS s)) _
  rw [Bool.false_or, Bool.or_false]
  by_cases he : (qidS s).e = 0
  · rw [if_neg (fun h => h he)]
    exact ⟨fun h => (by cases h), fun _ _ => rfl, fun _ => ⟨rfl, rfl, both_qid { x0 with iounit := (vl 4 (qidS s) : Int) } ⟨hq.qs, hq.q, hq.s, hq.z⟩ s⟩⟩
  · rw [if_pos he]
    exact ⟨fun h => (by cases h), fun _ _ => tk_bad _ _ he, fun h => absurd h he⟩
theorem both_ver (x0 : TellV) (s : S18) : Both ([0, 4].foldl stepR (x0, false, false, s)) (runF [122, 110] (x0, s)) := by
  rw [runF_two 122 110 (x0, s) { x0 with msize := (vl 4 s : Int) } (tk 4 s) rfl]
  show Both ({ x0 with msize := (vl 4 s : Int), name := txB (tk 4 s).l (tk 4 s).e }, false, false, ⟨txL (tk 4 s).l (tk 4 s).e, txE (tk 4 s).l (tk 4 s).e⟩) _
  by_cases he : (tk 4 s).e = 0
  · rw [if_neg (fun h => h he)]
    exact ⟨fun h => (by cases h), fun _ _ => rfl, fun _ => ⟨rfl, rfl, .inl ⟨rfl, rfl⟩⟩⟩
  · rw [if_pos he]
    exact ⟨fun h => (by cases h), fun _ _ => tx_bad _ he, fun h => absurd h he⟩
theorem fp_all (k : Int) : (fieldsM k = [] ∧ kindsW.contains k = false) ∨ (kindsW.contains k = true ∧ fieldsM k ≠ [] ∧ (fieldsM k, partsM k) ∈ ([([122, 110], [0, 4]), ([113], [5]), ([101], [3]), ([45], []), ([108], [6]), ([113, 105], [5, 1]), ([100], [7]), ([99], [2]), ([115], [8])] : List (List UInt8 × List Int))) := by
  by_cases h : k ∈ kindsW
  · right
    have : ∀ k ∈ kindsW, kindsW.contains k = true ∧ fieldsM k ≠ [] ∧ (fieldsM k, partsM k) ∈ ([([122, 110], [0, 4]), ([113], [5]), ([101], [3]), ([45], []), ([108], [6]), ([113, 105], [5, 1]), ([100], [7]), ([99], [2]), ([115], [8])] : List (List UInt8 × List Int)) := by decide
    exact this k h
  · left
    refine ⟨?_, by rw [Bool.eq_false_iff, ne_eq, List.contains_iff_mem]; exact h⟩
    unfold fieldsM
    rw [List.getElem?_eq_none]
    · rfl
    · rw [List.findIdx_eq_length_of_false]
      · decide
      · intro x hx; simp; rintro rfl; exact h hx
theorem both_all (k : Int) (hk : kindsW.contains k = true) (x0 : TellV) (hq : OkQ x0) (s : S18) : Both ((partsM k).foldl stepR (x0, false, false, s)) (runF (fieldsM k) (x0, s)) := by
  rcases fp_all k with ⟨_, h⟩ | ⟨_, _, h⟩
  · rw [h] at hk; cases hk
  · generalize fieldsM k = F, partsM k = P at h
    simp only [List.mem_cons, Prod.mk.injEq, List.not_mem_nil, or_false] at h
    rcases h with ⟨rfl, rfl⟩ | ⟨rfl, rfl⟩ | ⟨rfl, rfl⟩ | ⟨rfl, rfl⟩ | ⟨rfl, rfl⟩ | ⟨rfl, rfl⟩ | ⟨rfl, rfl⟩ | ⟨rfl, rfl⟩ | ⟨rfl, rfl⟩
    · exact both_ver x0 s
    · exact both_113 x0 hq s
    · exact both_one 3 101 x0 s rfl rfl rfl rfl
    · rw [runF_one]
      exact ⟨fun h => (by cases h), fun _ _ => rfl, fun _ => ⟨rfl, rfl, .inl ⟨rfl, rfl⟩⟩⟩
    · exact both_108 x0 hq s
    · exact both_two x0 hq s
    · exact both_one 7 100 x0 s rfl rfl rfl rfl
    · exact both_one 2 99 x0 s rfl rfl rfl rfl
    · exact both_115 x0 hq s
theorem vl_ok (n : Nat) (l : List UInt8) (h : n ≤ l.length) : vl n ⟨l, 0⟩ = num (l.take n) := by unfold vl nxB; simp [h]
theorem head_is (l : List UInt8) (h : 7 ≤ l.length) : vl 4 ⟨l.take 7, 0⟩ = vl 4 ⟨l, 0⟩ ∧ vl 1 (tk 4 ⟨l.take 7, 0⟩) = vl 1 (tk 4 ⟨l, 0⟩) ∧ vl 2 (tk 1 (tk 4 ⟨l.take 7, 0⟩)) = vl 2 (tk 1 (tk 4 ⟨l, 0⟩)) := by
  have e : (l.take 7).length = 7 := by rw [List.length_take]; omega
  rw [tk_ok 4 l (by omega), tk_ok 4 (l.take 7) (by omega), tk_ok 1 (l.drop 4) (by rw [List.length_drop]; omega), tk_ok 1 ((l.take 7).drop 4) (by rw [List.length_drop]; omega)]
  rw [vl_ok _ _ (by omega), vl_ok 4 l (by omega), vl_ok 1 _ (by rw [List.length_drop]; omega), vl_ok 1 _ (by rw [List.length_drop]; omega), vl_ok 2 _ (by rw [List.length_drop, List.length_drop]; omega), vl_ok 2 _ (by rw [List.length_drop, List.length_drop]; omega)]
  refine ⟨?_, ?_, ?_⟩ <;> congr 1
  · rw [List.take_take]; rfl
  · rw [List.drop_take, List.take_take]; rfl
  · rw [List.drop_take, List.drop_take, List.take_take]; rfl
theorem bare_okQ (k t : Int) : OkQ (bareT k t) := ⟨fun q hq => (by cases hq), rfl, rfl, rfl⟩
/-- The reply of bytes, or the error, is the reference's. -/
theorem read_is (l : List UInt8) : readR l = readF l := by
  by_cases h7 : l.length < 7
  · unfold readR readF; rw [if_pos h7, if_pos h7]
  obtain ⟨e1, e2, e3⟩ := head_is l (by omega)
  have eX : readX l = (partsM (kdF l)).foldl stepR (bareT (kdF l) (vl 2 (tk 1 (tk 4 ⟨l, 0⟩))), false, false, ⟨l.drop 7, 0⟩) := by unfold readX kdF; rw [e2, e3]
  have eY : readX' l = runF (fieldsM (kdF l)) (bareT (kdF l) (vl 2 (tk 1 (tk 4 ⟨l, 0⟩))), ⟨l.drop 7, 0⟩) := by unfold readX'; rw [hdF_ok l (by omega)]
  unfold readR readF
  rw [if_neg h7, if_neg h7, e1, e2]
  have hkd : vl 1 (tk 4 ⟨l, 0⟩) = kdF l := rfl
  rw [hkd]
  rcases fp_all (kdF l) with ⟨a, b⟩ | ⟨a, b, _⟩
  · rw [if_pos (.inr b), if_pos (.inl a)]
  by_cases hsz : vl 4 ⟨l, 0⟩ = l.length
  · rw [if_neg (show ¬ (vl 4 ⟨l, 0⟩ ≠ l.length ∨ kindsW.contains (kdF l : Int) = false) by rintro (h | h); exact h hsz; rw [a] at h; cases h), if_neg (show ¬ (fieldsM (kdF l : Int) = [] ∨ vl 4 ⟨l, 0⟩ ≠ l.length) by rintro (h | h); exact b h; exact h hsz)]
    have hb := both_all (kdF l) a (bareT (kdF l) (vl 2 (tk 1 (tk 4 ⟨l, 0⟩)))) (bare_okQ _ _) ⟨l.drop 7, 0⟩
    rw [← eX, ← eY] at hb
    generalize readX l = X, readX' l = Y at hb
    obtain ⟨x, ov, wr, sx⟩ := X
    obtain ⟨y, sy⟩ := Y
    obtain ⟨h1, h2, h3⟩ := hb
    simp only at h1 h2 h3 ⊢
    rcases ov with _ | _
    · rw [if_neg (by simp)]
      by_cases he : sy.e = 0
      · obtain ⟨_, rfl, hc⟩ := h3 he
        rw [if_neg (show ¬ sx.e ≠ 0 from fun h => h he)]
        have hen : endE sx.l sx.e = if sx.l = [] then 0 else 2 := by
          unfold endE
          rw [he]
          cases sx.l <;> simp
        rw [hen]
        by_cases hl : sx.l = []
        · rw [if_pos hl, if_neg (by simp)]
          rcases hc with ⟨rfl, rfl⟩ | ⟨c1, c2⟩
          · rw [← may_is]
            simp only [hl, ne_eq, not_true_eq_false, false_or, Bool.false_eq_true]
          · rw [← may_is, if_pos ?_, if_pos ?_]
            · right; rw [Bool.eq_false_iff]; exact fun h => c1 (may_okQ _ h)
            · rcases c2 with c2 | c2
              · exact .inl c2
              · right; rw [Bool.eq_false_iff]; exact fun h => c2 (may_okQ _ h)
        · rw [if_neg hl, if_pos (by decide), if_pos (.inl hl)]
      · have e := h2 rfl he
        rw [if_pos he]
        have hen : endE sx.l sx.e = sy.e := by unfold endE; rw [e, if_neg (fun h => he h.1)]
        rw [hen, if_pos he]
    · have e := h1 rfl
      rw [if_pos rfl, e, if_pos (by decide)]
  · rw [if_pos (.inl hsz), if_pos (.inr hsz)]

theorem good_rdR {w w' : World} {t x : TellV} {Aq : Option Addr} {nq cq : Nat} {Ad : Option Addr} {nd cd : Nat} (hx : x = goodT t) (hq : OwR w' w.heap.size 23 3 Aq nq cq (x.qids.map qidC)) (hd : OwB w' w.heap.size Ad nd cd x.data) : TellRd w' x Aq nq cq Ad nd cd := by
  have hl := goodT_lens t
  rw [← hx] at hl
  have h1 := hq.len
  have h2 := hd.len
  simp only [List.length_map] at h1
  exact ⟨hq.rd, hd.rd, by omega, by omega, by omega, by omega⟩
theorem tBytes_okR (x : TellV) (hok : layOk x = true) (Aq : Option Addr) (nq cq : Nat) (Ad : Option Addr) (nd cd : Nat) (w : World) (h : TellRd w x Aq nq cq Ad nd cd) :
    Calls Try.prog 19 #[.agg (tellC x Aq nq cq Ad nd cd).toArray] w (LayPost w (packL (n8 x.kind) (n16 x.tag) (layB x))) := by
  obtain ⟨h1, h2, h3⟩ := body_is x hok
  obtain ⟨hk, ht⟩ := layOk_kind x hok
  have hk2 : 0 ≤ x.kind ∧ x.kind ≤ 127 := by
    have : ∀ k ∈ kindsW, 0 ≤ k ∧ k ≤ 127 := by decide
    exact this _ hk
  rw [inB_def] at ht
  have := tBytes_any x (n8 x.kind) (n16 x.tag) (by unfold n8; omega) (by unfold n16; omega) (n8_le _) (n16_le _) Aq nq cq Ad nd cd w ⟨h, h2, h3⟩
  rw [h1] at this
  exact this
theorem packR_len (k t : Nat) (b : List UInt8) : (packL k t b).length = 7 + b.length := by simp [packL, le_length]; omega
theorem layB_good (t : TellV) (hd : t.data.length ≤ 30) : (layB t).length ≤ 400 := by
  have h := partsM_mem t.kind
  have h1 := txtB_len t.name
  have h2 := qidsB_len t.qids
  have h3 := statB_len t.sqid t.smode t.ssize t.sname
  unfold layB layS lay0
  generalize partsM t.kind = p at h
  simp only [List.mem_cons, List.not_mem_nil, or_false] at h
  rcases h with rfl | rfl | rfl | rfl | rfl | rfl | rfl | rfl | rfl <;> simp [stepT, partB, partT, le_length, qidB_len] <;> omega
/-- A number's byte. -/
theorem byte_ofR (n : Nat) : ∃ x : UInt8, (x.toNat : Int) = (n % 256 : Nat) := ⟨UInt8.ofNat n, by simp⟩
/-- Seven slices of bytes side by side. -/
def Seven (W : World) (g : Nat) (w : World) : Prop := ∀ j, j < 7 → ∃ A n c l, w.cell? ⟨g, j, none⟩ = some (.slice A n c) ∧ RdB W W.heap.size A n l ∧ n ≤ 700 ∧ n ≤ c ∧ c ≤ maxLen
def CutJ (w : World) (A : Option Addr) (n c : Nat) (x : Value) (wx : World) : Prop := x = .slice A n c ∧ (∃ l, OwB wx w.heap.size A n c l) ∧ Below w.heap.size w wx
theorem readC_tc (l : List UInt8) (N : Nat) (h : TC N (readF l).1) : TC N (readR l).1 := by rw [read_is]; exact h
set_option maxRecDepth 200000 in
set_option maxHeartbeats 8000000 in
theorem tellReads_walk (Ab : Option Addr) (nb cb : Nat) (lb : List UInt8) (ta : TellV) (Aa : Option Addr) (na ca : Nat) (Da : Option Addr) (da ea : Nat) (at_ c_ : Int) (w : World)
    (hb : RdB w w.heap.size Ab nb lb) (hbc : nb ≤ cb) (hbm : cb ≤ maxLen) (hoka : TellOk w w.heap.size ta Aa na ca Da da ea) (h0 : -9223372036854775808 ≤ at_) (h1 : at_ ≤ 9223372036854775807) (k0 : 0 ≤ c_) (k1 : c_ ≤ 255) :
    Calls Try.prog 7 #[.slice Ab nb cb, .agg (tellC ta Aa na ca Da da ea).toArray, .int .i64 at_, .int .u8 c_] w fun e w' => e = .returned (.bool true) ∧ Below w.heap.size w w' := by
  obtain ⟨x, rfl⟩ : ∃ x : UInt8, c_ = (x.toNat : Int) := ⟨UInt8.ofNat c_.toNat, by simp; omega⟩
  have hA0 := Blk.new w 29 (tellC ta Aa na ca Da da ea)
  obtain ⟨W2, hW2⟩ : ∃ x, x = w.alloc (.cells (tellC ta Aa na ca Da da ea).toArray 29) := ⟨_, rfl⟩
  have hA2 : Blk W2 w.heap.size 29 (tellC ta Aa na ca Da da ea) := by rw [hW2]; exact hA0
  have hb2 : Below w.heap.size w W2 := by rw [hW2]; exact (Below.refl _ _).alloc (Nat.le_refl _) _
  have HOK := Lib.hid (show TellOk W2 W2.heap.size ta Aa na ca Da da ea from { (hoka.up hb2) with qids := (hoka.qids.below hb2).more hb2.size, data := (hoka.data.below hb2).more hb2.size })
  have HA := Lib.hid hA2
  have HB2 := Lib.hid hb2
  have HBB := Lib.hid hb
  have HW2 := Lib.hid hW2
  clear hA0 hA2 hb2 hW2 hoka k0 k1 hb
  go_enter Try.func7, Try.ntmps7
  go_upto_region 1 with fail
  rw [← HW2.out]
  go_wp2_with (refine wpList_loadBlk rfl (.tmp 5) rfl rfl (by kernel_rfl) tellT_agg HA.out ?_; simp only [Act.put, List.setIfInBounds_toArray, List.set_cons_succ, List.set_cons_zero])
  refine (goodT_ok ta Aa na ca Da da ea _ HOK.out).mono ?_
  rintro e w1 ⟨y, Xq, mq, dq, Xd, md, dd, hx, rfl, hq0, hd0, hb1⟩
  have h0 := good_rdR hx.out hq0 hd0
  have hok : layOk y = true := by rw [hx.out]; exact good_ok18 ta
  have HYD := Lib.hid (show y.data.length ≤ 30 by rw [hx.out]; exact (goodT_lens ta).2.1)
  have HOKY := Lib.hid hok
  have HY := Lib.hid h0
  have HB1 := Lib.hid (Up.trans HB2.out hb1)
  clear hx hq0 hd0 hb1 hok h0
  go_wp2_with fail
  refine (tBytes_okR y HOKY.out Xq mq dq Xd md dd _ HY.out).mono ?_
  rintro e w2 ⟨A4, n, c4, lo, hlo, rfl, hown, hb2⟩
  have hln : lo.length = n := hown.len
  have hn6 : 7 ≤ n ∧ n ≤ 407 := by
    have a := layB_good y HYD.out
    rw [← hln, hlo.out, packR_len]
    omega
  have hcap4 := hown.cap
  have HB2' := Lib.hid (Up.trans HB1.out hb2)
  have HR4 := Lib.hid hown.rd
  clear hown hb2 hlo
  go_wp2_with fail
  refine (around_any at_ n _ h0 h1 (by omega) (by omega)).mono ?_
  rintro e w4' ⟨k, hk, hkm, rfl, rfl⟩
  clear hk
  go_wp2_with fail
  refine (few_any A4 n c4 lo 600 _ HR4.out hcap4.1 hcap4.2 (by omega)).mono ?_
  rintro e w5 ⟨Ao, no, co, l5, hl5, rfl, howno, hb5⟩
  obtain rfl : no = n := by rw [← howno.len, hl5.out, List.length_take]; omega
  obtain ⟨go, hgo, hgo1, hgo2⟩ := howno.blk (by omega)
  subst hgo
  obtain ⟨⟨v0, ku⟩, kf, hst, _⟩ := Own.store howno k hkm (.int .u8 (x.toNat : Int))
  have hk0 : (0 : Int) ≤ k := by omega
  have hk1 : (k : Int) < no := by omega
  have hst' : OwB (w5.setCell ⟨go, k, none⟩ (.int .u8 (x.toNat : Int))) w2.heap.size (some ⟨go, 0, none⟩) no co (l5.set k x) := by unfold OwB; rw [bv_set]; exact hst
  have hb5' : Below w2.heap.size w2 (w5.setCell ⟨go, k, none⟩ (.int .u8 (x.toNat : Int))) := hb5.trans (((Keeps.refl (Is go) w5).setCell (p := ⟨go, k, none⟩) (.inl rfl) _).is hgo1 (Nat.le_of_lt hgo2))
  have hcapo := howno.cap
  have HST := Lib.hid (hst'.rd)
  have HB5 := Lib.hid hb5'
  clear hst hst' hb5 hb5' howno hl5
  go_upto_region 5 with fail
  generalize w5.setCell ⟨go, k, none⟩ (.int .u8 (x.toNat : Int)) = w6 at HST HB5
  have HR6 := Lib.hid (HR4.out.up HB5.out)
  clear ku kf
  go_wp2_with fail
  refine (few_any A4 no c4 lo 600 _ HR6.out hcap4.1 hcap4.2 (by omega)).mono ?_
  rintro e w7 ⟨Am, nm, cm, lm, hlm, rfl, hownm, hb7⟩
  obtain rfl : nm = no := by rw [← hownm.len, hlm.out, List.length_take]; omega
  have Hsrc := Lib.hid (Src.oneByte (P := Try.prog) w7 25 5 Try.underlying25 x 5)
  have hlo7 : w6.heap.size ≤ (w7.alloc (.cells #[.int .u8 (x.toNat : Int)] 5)).heap.size := by have := hb7.size; simp; omega
  have HB7 := Lib.hid hb7
  have HM := Lib.hid hownm
  clear hb7 hownm hlm
  go_wp2_with (at_builtin; go_must (refine wpList_appendB bytesElem rfl (.tmp 35) (.tmp 37) 25 rfl w6.heap.size Am nm cm lm rfl (HM.out.alloc _) _ rfl 1 [x] Hsrc.out (by omega) hlo7 ?_); intro A8 n8_ c8 l8 w8 hl8 hn8 hown8 hb8 hg8)
  obtain rfl : n8_ = nm + 1 := hn8.out
  have hb68 : Below w6.heap.size w6 w8 := (HB7.out.alloc HB7.out.size (.cells #[.int .u8 (x.toNat : Int)] 5)).trans hb8
  have HB8 := Lib.hid (Up.trans (Up.trans HB2'.out HB5.out) hb68)
  have HRa := Lib.hid (HR6.out.up hb68)
  have HRb := Lib.hid (HST.out.up hb68)
  have HRc := Lib.hid (OwB.rd hown8)
  have hcap8 := hown8.cap
  have hl8n : l8.length = nm + 1 := hown8.len
  clear hb8 hg8 hown8 hb68 hl8 HST HR6 HM HB7 Hsrc hlo7
  refine (few_any A8 (nm + 1) c8 l8 600 _ HRc.out hcap8.1 hcap8.2 (by omega)).mono ?_
  rintro e w9 ⟨Ad, nd, cd, ld, hld, rfl, hownd, hb9⟩
  obtain rfl : nd = nm + 1 := by rw [← hownd.len, hld.out, List.length_take]; omega
  obtain ⟨gd, hgd, hgd1, hgd2⟩ := hownd.blk (by omega)
  subst hgd
  obtain ⟨y0, hy0⟩ := byte_ofR (nm + 1)
  obtain ⟨y1, hy1⟩ := byte_ofR ((nm + 1) / 256)
  have hcapd := hownd.cap
  have HD := Lib.hid hownd
  have HB9 := Lib.hid hb9
  clear hownd hb9 hld
  go_upto_region 7 with fail
  obtain ⟨⟨v0, ku⟩, kf, hst, _⟩ := Own.store HD.out 0 (by omega) (.int .u8 (y0.toNat : Int))
  have E0 := Lib.hid (show ((nm : Int) + 1) % 256 = (y0.toNat : Int) by omega)
  have HD2 := Lib.hid (show OwB (w9.setCell ⟨gd, 0, none⟩ (.int .u8 (y0.toNat : Int))) w8.heap.size (some ⟨gd, 0, none⟩) (nm + 1) cd (ld.set 0 y0) by unfold OwB; rw [bv_set]; exact hst)
  have HB10 := Lib.hid (HB9.out.trans (((Keeps.refl (Is gd) w9).setCell (p := ⟨gd, 0, none⟩) (.inl rfl) (.int .u8 (y0.toNat : Int))).is hgd1 (Nat.le_of_lt hgd2)))
  clear hst HD HB9 hy0
  go_upto_region 8 with fail
  rw [E0.out]
  generalize w9.setCell ⟨gd, 0, none⟩ (.int .u8 (y0.toNat : Int)) = w10 at HD2 HB10 ⊢
  clear ku kf
  have hgd3 : gd < w10.heap.size := by obtain ⟨g2, e, _, h⟩ := HD2.out.blk (by omega); cases e; exact h
  obtain ⟨⟨v1, ku⟩, kf, hst, _⟩ := Own.store HD2.out 1 (by omega) (.int .u8 (y1.toNat : Int))
  have hd1 : (1 : Int) < (nm : Int) + 1 := by omega
  have E1 := Lib.hid (show ((nm : Int) + 1) / 256 = (y1.toNat : Int) by omega)
  have HD3 := Lib.hid (show OwB (w10.setCell ⟨gd, 1, none⟩ (.int .u8 (y1.toNat : Int))) w8.heap.size (some ⟨gd, 0, none⟩) (nm + 1) cd ((ld.set 0 y0).set 1 y1) by unfold OwB; rw [bv_set]; exact hst)
  have hb11 := HB10.out.trans (((Keeps.refl (Is gd) w10).setCell (p := ⟨gd, 1, none⟩) (.inl rfl) (.int .u8 (y1.toNat : Int))).is hgd1 (Nat.le_of_lt hgd3))
  have HRa2 := Lib.hid (HRa.out.up hb11)
  have HRb2 := Lib.hid (HRb.out.up hb11)
  have HRc2 := Lib.hid (HRc.out.up hb11)
  have HRd2 := Lib.hid HD3.out.rd
  have HB11 := Lib.hid (Up.trans HB8.out hb11)
  clear hst HD2 HB10 hy1 hb11 HRa HRb HRc
  go_upto_region 9 with fail
  rw [E1.out]
  generalize w10.setCell ⟨gd, 1, none⟩ (.int .u8 (y1.toNat : Int)) = w11 at HRa2 HRb2 HRc2 HRd2 HB11 ⊢
  clear ku kf HD3 hd1
  have hk4 : k ≤ 65536 := by omega
  go_wp2_with fail
  refine (few_any A4 nm c4 lo k _ HRa2.out hcap4.1 hcap4.2 hk4).mono ?_
  rintro e w12 ⟨Ac, nc, cc, lc, hlc, rfl, hownc, hb12⟩
  obtain rfl : nc = k := by rw [← hownc.len, hlc.out, List.length_take]; omega
  have hcapc := hownc.cap
  have HC := Lib.hid hownc
  have HB12 := Lib.hid hb12
  clear hownc hb12 hlc
  go_upto_if 57 with fail
  go_cut [14] from 56 to 67 (fun x wx => CutJ w11 Ac nc cc x wx)
  case first =>
    by_cases h3 : 3 < nc
    · have j3 : (3 : Int) < nc := by omega
      obtain ⟨gc, hgc, hgc1, hgc2⟩ := HC.out.blk (by omega)
      subst hgc
      obtain ⟨z0, hz0⟩ := byte_ofR nc
      obtain ⟨z1, hz1⟩ := byte_ofR (nc / 256)
      have E2 := Lib.hid (show (nc : Int) % 256 = (z0.toNat : Int) by omega)
      have E3 := Lib.hid (show (nc : Int) / 256 = (z1.toNat : Int) by omega)
      obtain ⟨⟨v0, ku⟩, kf, hst, _⟩ := Own.store HC.out 0 (by omega) (.int .u8 (z0.toNat : Int))
      have HC2 := Lib.hid (show OwB (w12.setCell ⟨gc, 0, none⟩ (.int .u8 (z0.toNat : Int))) w11.heap.size (some ⟨gc, 0, none⟩) nc cc (lc.set 0 z0) by unfold OwB; rw [bv_set]; exact hst)
      have HB13 := Lib.hid (HB12.out.trans (((Keeps.refl (Is gc) w12).setCell (p := ⟨gc, 0, none⟩) (.inl rfl) (.int .u8 (z0.toNat : Int))).is hgc1 (Nat.le_of_lt hgc2)))
      have hc0 : (0 : Int) < nc := by omega
      clear hst hz0 hz1
      go_upto_region 12 with fail
      rw [E2.out]
      generalize w12.setCell ⟨gc, 0, none⟩ (.int .u8 (z0.toNat : Int)) = w13 at HC2 HB13 ⊢
      clear ku kf
      have hgc3 : gc < w13.heap.size := by obtain ⟨g2, e, _, h⟩ := HC2.out.blk (by omega); cases e; exact h
      obtain ⟨⟨v1, ku⟩, kf, hst, _⟩ := Own.store HC2.out 1 (by omega) (.int .u8 (z1.toNat : Int))
      have HC3 := Lib.hid (show OwB (w13.setCell ⟨gc, 1, none⟩ (.int .u8 (z1.toNat : Int))) w11.heap.size (some ⟨gc, 0, none⟩) nc cc ((lc.set 0 z0).set 1 z1) by unfold OwB; rw [bv_set]; exact hst)
      have HB14 := Lib.hid (HB13.out.trans (((Keeps.refl (Is gc) w13).setCell (p := ⟨gc, 1, none⟩) (.inl rfl) (.int .u8 (z1.toNat : Int))).is hgc1 (Nat.le_of_lt hgc3)))
      have hc1 : (1 : Int) < nc := by omega
      clear hst
      go_wp2
      rw [E3.out]
      go_meet
      exact ⟨rfl, ⟨_, HC3.out⟩, HB14.out⟩
    · have j3 : ¬ (3 : Int) < nc := by omega
      go_wp2
      go_meet
      exact ⟨rfl, ⟨_, HC.out⟩, HB12.out⟩
  case rest =>
    obtain ⟨rfl, ⟨lz, hcut2⟩, hbcut⟩ := hcut
    have HRa3 := Lib.hid (HRa2.out.up hbcut)
    have HRb3 := Lib.hid (HRb2.out.up hbcut)
    have HRc3 := Lib.hid (HRc2.out.up hbcut)
    have HRd3 := Lib.hid (HRd2.out.up hbcut)
    have HRe3 := Lib.hid hcut2.rd
    have HBc := Lib.hid (Up.trans HB11.out hbcut)
    have HBBw := Lib.hid ((HBB.out.below HBc.out).more HBc.out.size)
    have hkc : nc ≤ c4 := by omega
    have hkc2 : (nc : Int) ≤ c4 := by omega
    have hk00 : (0 : Int) ≤ nc := by omega
    have hkn : nc ≤ nm := by omega
    clear hcut2 hbcut HRa2 HRb2 HRc2 HRd2
    go_upto_region 13 with fail
    refine wp_region_tq NoG (.t 0 (.t 2 (.t 3 (.t 4 (.t 5 (.t 6 (.t 7 (.t 8 (.t 9 (.s 1 (.s 10 (.t 11 .nil)))))))))))) (by kernel_rfl) (by kernel_rfl) ?_
    repeat (refine tq_take (by simp only [List.getElem?_toArray, List.getElem?_cons_succ, List.getElem?_cons_zero]; exact rfl) ?_; go_big_quiet_step (fail); refine wpQuiet_nil ?_)
    refine tq_solo (by simp only [List.getElem?_toArray, List.getElem?_cons_succ, List.getElem?_cons_zero]; exact rfl) ?_
    go_wp2_with fail
    refine (few_any Ab nb cb lb 80 wc.drew (show RdB wc.drew wc.drew.heap.size Ab nb lb from HBBw.out) hbc hbm (by omega)).mono ?_
    rintro e we ⟨Ae, ne, ce, le_, hle, rfl, howne, hbe⟩
    have hne : ne ≤ 80 := by rw [← howne.len, hle.out, List.length_take]; omega
    have hcape := howne.cap
    have HR9 := Lib.hid (OwB.rd howne)
    have HBE := Lib.hid hbe
    clear howne hbe hle
    go_wp2
    refine Solo.up HBE.out ?_
    refine tq_solo (by simp only [List.getElem?_toArray, List.getElem?_cons_succ, List.getElem?_cons_zero]; exact rfl) ?_
    go_wp2
    refine Solo.up ((Below.refl _ _).alloc (Nat.le_refl _) _) ?_
    repeat (refine tq_take (by simp only [List.getElem?_toArray, List.getElem?_cons_succ, List.getElem?_cons_zero]; exact rfl) ?_; go_big_quiet_step (fail); refine wpQuiet_nil ?_)
    refine tq_end ?_
    obtain ⟨g9, hg9⟩ : ∃ g, g = we.heap.size := ⟨_, rfl⟩
    obtain ⟨W, hW⟩ : ∃ W, W = we.alloc (.cells #[.slice Ae ne ce, .slice A4 nm c4, .slice (some ⟨go, 0, none⟩) nm co, .slice A4 nc c4, .slice A8 (nm + 1) c8, .slice (some ⟨gd, 0, none⟩) (nm + 1) cd, .slice Ac nc cc] 25) := ⟨_, rfl⟩
    have hbW : Below we.heap.size we W := by rw [hW]; exact (Below.refl _ _).alloc (Nat.le_refl _) _
    have HBW := Lib.hid (Up.trans (Up.trans HBc.out (below_of_drew HBE.out)) hbW)
    have hw89 := below_of_drew HBE.out
    have HF := Lib.hid (show Seven W g9 W by
      have hh : W.heap[g9]? = some (.cells #[.slice Ae ne ce, .slice A4 nm c4, .slice (some ⟨go, 0, none⟩) nm co, .slice A4 nc c4, .slice A8 (nm + 1) c8, .slice (some ⟨gd, 0, none⟩) (nm + 1) cd, .slice Ac nc cc] 25 (0, 0)) := by rw [hW, hg9]; exact heap_alloc_new we _
      intro j hj
      simp only [World.cell?, hh]
      match j, hj with
      | 0, _ => exact ⟨Ae, ne, ce, le_, rfl, HR9.out.up hbW, by omega, hcape.1, hcape.2⟩
      | 1, _ => exact ⟨A4, nm, c4, _, rfl, (HRa3.out.up hw89).up hbW, by omega, hcap4.1, hcap4.2⟩
      | 2, _ => exact ⟨some ⟨go, 0, none⟩, nm, co, _, rfl, (HRb3.out.up hw89).up hbW, by omega, hcapo.1, hcapo.2⟩
      | 3, _ => exact ⟨A4, nc, c4, _, rfl, ((HRa3.out.up hw89).up hbW).first hkn, by omega, hkc, hcap4.2⟩
      | 4, _ => exact ⟨A8, nm + 1, c8, _, rfl, (HRc3.out.up hw89).up hbW, by omega, hcap8.1, hcap8.2⟩
      | 5, _ => exact ⟨some ⟨gd, 0, none⟩, nm + 1, cd, _, rfl, (HRd3.out.up hw89).up hbW, by omega, hcapd.1, hcapd.2⟩
      | 6, _ => exact ⟨Ac, nc, cc, _, rfl, (HRe3.out.up hw89).up hbW, by omega, hcapc.1, hcapc.2⟩)
    have HG := Lib.hid hg9
    clear hbW hw89 hg9 HR9 HRa3 HRb3 HRc3 HRd3 HRe3 HC HB12
    go_wp2
    rw [← hW, ← HG.out]
    clear hW
    go_loopw [16] (fun i wr => RoundRel 7 W i wr) (fun i _ => 7 - (intOf i).toNat)
    case atStart => exact ⟨0, by omega, rfl, Below.refl _ _⟩
    case round =>
      obtain ⟨j, hj, rfl, hbw⟩ := hrel
      have Hbw := Lib.hid hbw
      clear hbw
      by_cases hlt : j < 7
      · obtain ⟨Aj, nj, cj, lj, hcell, hrd, hj1, hj2, hj3⟩ := HF.out j hlt
        have kcr : wr.cell? ⟨g9, j, none⟩ = some (.slice Aj nj cj) := cell_later Hbw.out hcell
        have hj0 : (0 : Int) ≤ j := by omega
        have hj4 : (j : Int) < 7 := by omega
        have HCELL := Lib.hid hcell
        have HRD := Lib.hid (hrd.up Hbw.out)
        clear hcell hrd
        go_wp2_with fail
        refine (tRead_any Aj nj cj lj _ HRD.out hj2 hj3 (by omega)).mono ?_
        rintro e wa ⟨x1, Yq, pq, qq, Yd, pd, qd, er1, hx1, her1, htb, rfl, hoq1, hod1, hba⟩
        obtain ⟨gx, hgx⟩ : ∃ g, g = wa.heap.size := ⟨_, rfl⟩
        obtain ⟨wa2, hwa2⟩ : ∃ x, x = wa.alloc (.cells #[.int .i64 0, .int .i64 0, .int .i64 0, .int .i64 0, .int .i64 0, .int .i64 0, .string ⟨#[]⟩, .bool false, .int .i64 0, .int .i64 0, .slice none 0 0, .slice none 0 0, .bool false, .int .i64 0, .int .i64 0, .int .i64 0, .int .i64 0, .string ⟨#[]⟩] 29) := ⟨_, rfl⟩
        have hXa : Blk wa2 gx 29 zero18 := by rw [hwa2, hgx]; exact Blk.new wa 29 zero18
        have hba2 : Below wa.heap.size wa wa2 := by rw [hwa2]; exact (Below.refl _ _).alloc (Nat.le_refl _) _
        have hks := keeps_setRow wa2 (g := gx) (tellC x1 Yq pq qq Yd pd qd).toArray
        have hbs : Below wa.heap.size wa (wa2.setRow gx (tellC x1 Yq pq qq Yd pd qd).toArray) := hba2.trans (hks.is (by omega) (Nat.le_of_lt hXa.lt))
        have HX := Lib.hid (hXa.setRow (tellC x1 Yq pq qq Yd pd qd))
        have HOQ1 := Lib.hid (hoq1.rd.up hbs)
        have HOD1 := Lib.hid (hod1.rd.up hbs)
        have HBA := Lib.hid (Up.trans (Up.trans Hbw.out hba) hbs)
        have HRDa := Lib.hid ((HRD.out.up hba).up hbs)
        have kca : (wa2.setRow gx (tellC x1 Yq pq qq Yd pd qd).toArray).cell? ⟨g9, j, none⟩ = some (.slice Aj nj cj) := cell_later HBA.out HCELL.out
        have HWA := Lib.hid hwa2
        have HGX := Lib.hid hgx
        clear kcr hoq1 hod1 hba hba2 hks hbs hwa2 hgx htb
        go_upto_region 18 with (rw [← HWA.out, ← HGX.out]; refine wpList_storeBlk rfl (.tmp 17) (.tmp 91) rfl rfl (tellC x1 Yq pq qq Yd pd qd) rfl rfl (by kernel_rfl) hXa rfl (tellC_one x1 Yq pq qq Yd pd qd) ?_)
        clear hXa HWA
        generalize wa2.setRow gx (tellC x1 Yq pq qq Yd pd qd).toArray = wb at HX HOQ1 HOD1 HBA HRDa kca ⊢
        go_wp2_with fail
        refine (refRead_any Aj nj cj lj _ HRDa.out hj2 hj3 (by omega)).mono ?_
        rintro e wd ⟨x2, Zq, sq, tq, Zd, sd, td, er2, hx2, her2, htc, rfl, hoq2, hod2, hbd⟩
        obtain rfl : x1 = x2 := by rw [hx1.out, hx2.out, read_is]
        obtain rfl : er1 = er2 := by rw [her1.out, her2.out, read_is]
        obtain ⟨gy, hgy⟩ : ∃ g, g = wd.heap.size := ⟨_, rfl⟩
        obtain ⟨wd2, hwd2⟩ : ∃ x, x = wd.alloc (.cells #[.int .i64 0, .int .i64 0, .int .i64 0, .int .i64 0, .int .i64 0, .int .i64 0, .string ⟨#[]⟩, .bool false, .int .i64 0, .int .i64 0, .slice none 0 0, .slice none 0 0, .bool false, .int .i64 0, .int .i64 0, .int .i64 0, .int .i64 0, .string ⟨#[]⟩] 29) := ⟨_, rfl⟩
        have hYa : Blk wd2 gy 29 zero18 := by rw [hwd2, hgy]; exact Blk.new wd 29 zero18
        have hbd2 : Below wd.heap.size wd wd2 := by rw [hwd2]; exact (Below.refl _ _).alloc (Nat.le_refl _) _
        have hks := keeps_setRow wd2 (g := gy) (tellC x1 Zq sq tq Zd sd td).toArray
        have hbs : Below wd.heap.size wd (wd2.setRow gy (tellC x1 Zq sq tq Zd sd td).toArray) := hbd2.trans (hks.is (by omega) (Nat.le_of_lt hYa.lt))
        have hlj := HRD.out.len
        have hql1 := HOQ1.out.len
        have hdl1 := HOD1.out.len
        have hql2 := hoq2.len
        have hdl2 := hod2.len
        rw [List.length_map] at hql1 hql2
        obtain ⟨tc1, tc2, tc3, tc4⟩ := htc.out
        have HY2 := Lib.hid (show TellRd (wd2.setRow gy (tellC x1 Zq sq tq Zd sd td).toArray) x1 Zq sq tq Zd sd td from TellRd.up ⟨hoq2.rd, hod2.more hbd.size, by omega, by omega, by omega, by omega⟩ hbs)
        have HX2 := Lib.hid (show TellRd (wd2.setRow gy (tellC x1 Zq sq tq Zd sd td).toArray) x1 Yq pq qq Yd pd qd from TellRd.up (TellRd.up ⟨HOQ1.out.more (Nat.le_refl _), HOD1.out.more (Nat.le_refl _), by omega, by omega, by omega, by omega⟩ hbd) hbs)
        have HYB := Lib.hid (hYa.setRow (tellC x1 Zq sq tq Zd sd td))
        have HXB := Lib.hid ((HX.out.up hbd).up hbs)
        have HBD := Lib.hid (Up.trans (Up.trans HBA.out hbd) hbs)
        have HWD := Lib.hid hwd2
        have HGY := Lib.hid hgy
        clear hoq2 hod2 hbd hbd2 hks hbs hwd2 hgy htc tc1 tc2 tc3 tc4 hql1 hql2 hdl1 hdl2 hlj HOQ1 HOD1 HX HRDa HRD hx1 hx2 her1 her2 kca
        go_upto_region 19 with (rw [← HWD.out, ← HGY.out]; refine wpList_storeBlk rfl (.tmp 19) (.tmp 99) rfl rfl (tellC x1 Zq sq tq Zd sd td) rfl rfl (by kernel_rfl) hYa rfl (tellC_one x1 Zq sq tq Zd sd td) ?_)
        clear hYa HWD HGY HGX
        generalize wd2.setRow gy (tellC x1 Zq sq tq Zd sd td).toArray = wf at HY2 HX2 HYB HXB HBD ⊢
        have hcx : ∀ k v, (tellC x1 Yq pq qq Yd pd qd)[k]? = some v → wf.cell? ⟨gx, 0 + k, none⟩ = some v := fun k v hk => by rw [Nat.zero_add]; exact HXB.out.cell k v hk
        have hcy : ∀ k v, (tellC x1 Zq sq tq Zd sd td)[k]? = some v → wf.cell? ⟨gy, 0 + k, none⟩ = some v := fun k v hk => by rw [Nat.zero_add]; exact HYB.out.cell k v hk
        have HCX := Lib.hid hcx
        have HCY := Lib.hid hcy
        have tt : (er1 != er1) = false := by simp
        clear hcx hcy
        go_wp2_with first
          | (refine wpList_loadMid rfl (.tmp 17) rfl (xs := tellC x1 Yq pq qq Yd pd qd) rfl HCX.out (by kernel_rfl) tellT_agg ?_; simp only [Act.put, List.setIfInBounds_toArray, List.set_cons_succ, List.set_cons_zero])
          | (refine wpList_loadMid rfl (.tmp 19) rfl (xs := tellC x1 Zq sq tq Zd sd td) rfl HCY.out (by kernel_rfl) tellT_agg ?_; simp only [Act.put, List.setIfInBounds_toArray, List.set_cons_succ, List.set_cons_zero])
        refine (refSame_any x1 x1 Yq pq qq Yd pd qd Zq sq tq Zd sd td _ HX2.out HY2.out).mono ?_
        rintro e wg ⟨rfl, hbg⟩
        rw [sameT_refl]
        have HBG := Lib.hid (Up.trans HBD.out hbg)
        clear hbg
        go_wp2
        go_roundw
        case rel => exact ⟨j + 1, by omega, by go_num, HBG.out⟩
        case measure => simp [intOf]; omega
      · have hj4 : ¬ (j : Int) < 7 := by omega
        go_wp2_with fail
        refine (lives18_any _).mono ?_
        rintro e wz ⟨rfl, hbz⟩
        go_wp2
        go_ret
        exact ⟨rfl, Up.trans HBW.out (Up.trans Hbw.out hbz)⟩
end Go.Proofs.Ytoplkglnjgllnaa
