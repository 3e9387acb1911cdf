/-
  tell's reader: qid, qids, stat.
  tell's reader: qids, stat.
  tell's reader: part.
-/
import Derived.Test.YtoplkglnjgllnaaTrC
import Derived.Test.YtoplkglnjgllnaaTrS
import Derived.Test.YtoplkglnjgllnaaTrB
namespace Go.Proofs.Ytoplkglnjgllnaa
open Go.RowKit
set_option linter.unusedVariables false
set_option linter.unusedSimpArgs false

/-- A reader's state: the bytes that are left, the error. -/
structure S18 where
  l : List UInt8
  e : Int
def vl (n : Nat) (s : S18) : Nat := num (nxB s.l s.e n)
def tk (n : Nat) (s : S18) : S18 := ⟨nxL s.l s.e n, nxE s.l s.e n⟩
theorem vl_lt (n : Nat) (s : S18) : vl n s < 256 ^ n := by
  have h1 := num_lt (nxB s.l s.e n)
  exact Nat.lt_of_lt_of_le h1 (Nat.pow_le_pow_right (show 0 < 256 by omega) (nxB_len s.l s.e n))
theorem tk_le (n : Nat) (s : S18) : (tk n s).l.length ≤ s.l.length := nxL_le s.l s.e n
/-- The reader in block g over the little reader in block gr. -/
def RrS (w : World) (g gr : Nat) (xs : List Value) (over wrong : Bool) (s : S18) : Prop :=
  Blk w g 76 (.pointer (some ⟨gr, 0, none⟩) :: (xs ++ [Value.bool over, Value.bool wrong])) ∧ xs.length = 18 ∧ Rdr w gr s.l s.e ∧ gr < g
section
variable {w w' : World} {g gr : Nat} {xs : List Value} {over wrong : Bool} {s : S18}
theorem two_g {g gr k : Nat} (hgr : gr < g) (h : g + 1 ≤ k) : ¬ Two18 g gr k := fun e => by
  rcases e with e | e <;> omega
theorem RrS.lt (h : RrS w g gr xs over wrong s) : g < w.heap.size := h.1.lt
theorem RrS.below {B : Nat} (h : RrS w g gr xs over wrong s) (k : Below B w w') (hB : g < B) : RrS w' g gr xs over wrong s := ⟨h.1.below k hB, h.2.1, h.2.2.1.below k (Nat.lt_trans h.2.2.2 hB), h.2.2.2⟩
theorem RrS.up (h : RrS w g gr xs over wrong s) (k : Below w.heap.size w w') : RrS w' g gr xs over wrong s := h.below k h.lt
theorem RrS.c0 (h : RrS w g gr xs over wrong s) : w.cell? ⟨g, 0, none⟩ = some (.pointer (some ⟨gr, 0, none⟩)) := h.1.cell 0 _ rfl
theorem rr_at {i : Nat} {v p : Value} (hx : xs.length = 18) (hv : xs[i]? = some v) : (p :: (xs ++ [Value.bool over, Value.bool wrong]))[i + 1]? = some v := by
  have := (List.getElem?_eq_some_iff.1 hv).1
  rw [List.getElem?_cons_succ, List.getElem?_append_left this, hv]
theorem RrS.c19 (h : RrS w g gr xs over wrong s) : w.cell? ⟨g, 19, none⟩ = some (.bool over) := h.1.cell 19 _ (by rw [List.getElem?_cons_succ, List.getElem?_append_right (by have := h.2.1; omega), h.2.1]; rfl)
theorem RrS.c20 (h : RrS w g gr xs over wrong s) : w.cell? ⟨g, 20, none⟩ = some (.bool wrong) := h.1.cell 20 _ (by rw [List.getElem?_cons_succ, List.getElem?_append_right (by have := h.2.1; omega), h.2.1]; rfl)
theorem RrS.next {s' : S18} (h : RrS w g gr xs over wrong s) (hr : Rdr w' gr s'.l s'.e) (k : Keeps (Is gr) w w') : RrS w' g gr xs over wrong s' :=
  ⟨h.1.keeps k (fun e => by have e' : g = gr := e; have := h.2.2.2; omega), h.2.1, hr, h.2.2.2⟩
theorem RrS.kg (h : RrS w g gr xs over wrong s) {i : Nat} (v : Value) : Rdr (w.setCell ⟨g, i, none⟩ v) gr s.l s.e := h.2.2.1.keeps ((Keeps.refl (Is g) _).setCell (p := ⟨g, i, none⟩) (.inl rfl) _) (fun k hk e => by have e' : k = g := e; have := h.2.2.2; omega)
theorem RrS.mark (h : RrS w g gr xs over wrong s) (b : Bool) : RrS (w.setCell ⟨g, 20, none⟩ (.bool b)) g gr xs over b s := by
  refine ⟨?_, h.2.1, h.kg _, h.2.2.2⟩
  have := h.1.set 20 (.bool b)
  rwa [List.set_cons_succ, List.set_append_right _ _ (by have := h.2.1; omega), h.2.1] at this
theorem RrS.over19 (h : RrS w g gr xs over wrong s) (b : Bool) : RrS (w.setCell ⟨g, 19, none⟩ (.bool b)) g gr xs b wrong s := by
  refine ⟨?_, h.2.1, h.kg _, h.2.2.2⟩
  have := h.1.set 19 (.bool b)
  rwa [List.set_cons_succ, List.set_append_right _ _ (by have := h.2.1; omega), h.2.1] at this
theorem RrS.field (h : RrS w g gr xs over wrong s) {i : Nat} (hi : i < 18) (v : Value) : RrS (w.setCell ⟨g, i + 1, none⟩ v) g gr (xs.set i v) over wrong s := by
  refine ⟨?_, by simp [h.2.1], h.kg _, h.2.2.2⟩
  have := h.1.set (i + 1) v
  rwa [List.set_cons_succ, List.set_append_left _ _ (by have := h.2.1; omega)] at this
theorem Keeps.two (h : Keeps (Is gr) w w') : Keeps (Two18 g gr) w w' := h.mono fun k _ e => .inr e
theorem Keeps.twog (h : Keeps (Is g) w w') : Keeps (Two18 g gr) w w' := h.mono fun k _ e => .inl e
theorem Keeps.thenB {G : Nat → Prop} {w2 : World} (h : Keeps G w w') (k : Below w.heap.size w' w2) : Keeps G w w2 :=
  ⟨k.os.trans h.os, k.tape.trans h.tape, k.output.trans h.output, Nat.le_trans h.size k.size, fun i hi hn => (k.block i hi).trans (h.block i hi hn)⟩
end
/-- A qid that is read; is it of no kind; what is left. -/
def qidV (s : S18) : QidV := ⟨decide (vl 1 s = 128), (vl 4 (tk 1 s) : Int), RowKit.wrap64 (vl 8 (tk 4 (tk 1 s)) : Int)⟩
def qidW (s : S18) : Bool := decide (vl 1 s ≠ 0) && decide (vl 1 s ≠ 128)
def qidS (s : S18) : S18 := tk 8 (tk 4 (tk 1 s))
theorem qidT_agg (w : World) : (isAgg 23).run Try.prog w = .ok true w := by kernel_rfl
theorem statT_agg (w : World) : (isAgg 27).run Try.prog w = .ok true w := by kernel_rfl
def RQidPost (g gr : Nat) (xs : List Value) (over wrong : Bool) (s : S18) (w : World) (e : Ending) (w' : World) : Prop :=
  ∃ (q : QidV) (b : Bool) (s' : S18), Hid (q = qidV s) ∧ Hid (b = (wrong || qidW s)) ∧ Hid (s' = qidS s) ∧ e = .returned (.agg #[.bool q.dir, .int .i64 q.ver, .int .i64 q.path]) ∧ RrS w' g gr xs over b s' ∧ Keeps (Two18 g gr) w w'
set_option maxRecDepth 20000 in
set_option maxHeartbeats 4000000 in
theorem rQid_any (g gr : Nat) (xs : List Value) (over wrong : Bool) (s : S18) (w : World) (h : RrS w g gr xs over wrong s) :
    Calls Try.prog 67 #[.pointer (some ⟨g, 0, none⟩)] w (RQidPost g gr xs over wrong s w) := by
  have hZ0 := Blk.new w 23 [.bool false, .int .i64 0, .int .i64 0]
  have hgl := h.lt
  have hgr := h.2.2.2
  obtain ⟨W, hW⟩ : ∃ W, W = w.alloc (.cells #[.bool false, .int .i64 0, .int .i64 0] 23) := ⟨_, rfl⟩
  have hW' : W = w.alloc (.cells [.bool false, .int .i64 0, .int .i64 0].toArray 23) := hW
  have h0 : RrS W g gr xs over wrong s := by rw [hW]; exact h.up ((Below.refl _ _).alloc (Nat.le_refl _) _)
  have hk0 : Keeps (Two18 g gr) w W := by rw [hW]; exact (Keeps.refl _ _).alloc _
  rw [← hW'] at hZ0
  obtain ⟨Z, hZ⟩ : ∃ Z, Z = w.heap.size := ⟨_, rfl⟩
  rw [← hZ] at hZ0
  have hZg : g < Z := by omega
  have nZ : ¬ Is gr Z := fun e => by have e' : Z = gr := e; omega
  have nZg : ¬ Is g Z := fun e => by have e' : Z = g := e; omega
  have c0 := h0.c0
  have H0 := Lib.hid h0
  have HZ0 := Lib.hid hZ0
  have HK0 := Lib.hid hk0
  have HZe := Lib.hid hZ
  clear h h0 hZ0 hk0 hW'
  go_enter Try.func67, Try.ntmps67
  go_upto_region 1 with fail
  rw [← hW, ← hZ]
  clear hW hZ
  go_wp2_with fail
  refine (rU8_any gr s.l s.e _ H0.out.2.2.1).mono ?_
  rintro x w1 ⟨v1, l1, e1, hv1, hl1, he1, rfl, hR1, hK1⟩
  have H1 := Lib.hid (H0.out.next (s' := ⟨l1, e1⟩) hR1 hK1)
  have HZ1 := Lib.hid (HZ0.out.keeps hK1 nZ)
  have HK1 := Lib.hid (HK0.out.trans (Keeps.two (g := g) hK1))
  clear hR1 hK1 c0
  have c0 := H1.out.c0
  go_wp2_with fail
  refine (rU32_any gr l1 e1 _ H1.out.2.2.1).mono ?_
  rintro x w2 ⟨v2, l2, e2, hv2, hl2, he2, rfl, hR2, hK2⟩
  have H2 := Lib.hid (H1.out.next (s' := ⟨l2, e2⟩) hR2 hK2)
  have HZ2 := Lib.hid (HZ1.out.keeps hK2 nZ)
  have HK2 := Lib.hid (HK1.out.trans (Keeps.two (g := g) hK2))
  clear hR2 hK2 c0
  have c0 := H2.out.c0
  go_wp2_with fail
  refine (rU64_any gr l2 e2 _ H2.out.2.2.1).mono ?_
  rintro x w3 ⟨v3, l3, e3, hv3, hl3, he3, rfl, hR3, hK3⟩
  have H3 := Lib.hid (H2.out.next (s' := ⟨l3, e3⟩) hR3 hK3)
  have HZ3 := Lib.hid (HZ2.out.keeps hK3 nZ)
  have HK3 := Lib.hid (HK2.out.trans (Keeps.two (g := g) hK3))
  clear hR3 hK3 c0
  have hs1 : tk 1 s = ⟨l1, e1⟩ := by unfold tk; rw [hl1.out, he1.out]
  have hs2 : tk 4 (tk 1 s) = ⟨l2, e2⟩ := by rw [hs1]; unfold tk; rw [hl2.out, he2.out]
  have hs3 : qidS s = ⟨l3, e3⟩ := by unfold qidS; rw [hs2]; unfold tk; rw [hl3.out, he3.out]
  have hq1 : vl 1 s = v1 := by unfold vl; rw [hv1.out]
  have hq2 : vl 4 (tk 1 s) = v2 := by rw [hs1]; unfold vl; rw [hv2.out]
  have hq3 : vl 8 (tk 4 (tk 1 s)) = v3 := by rw [hs2]; unfold vl; rw [hv3.out]
  have b1 : v1 < 256 := by have := vl_lt 1 s; rw [hq1] at this; simpa using this
  have b2 : v2 < 4294967296 := by have := vl_lt 4 (tk 1 s); rw [hq2] at this; simpa using this
  have b3 : v3 < 18446744073709551616 := by have := vl_lt 8 (tk 4 (tk 1 s)); rw [hq3] at this; simpa using this
  obtain ⟨p, hp⟩ : ∃ p, RowKit.wrap64 (v3 : Int) = p := ⟨_, rfl⟩
  have HV := Lib.hid (show qidV s = ⟨decide (v1 = 128), v2, p⟩ by unfold qidV; rw [hq1, hq2, hq3, hp])
  have HWr := Lib.hid (show qidW s = (decide (v1 ≠ 0) && decide (v1 ≠ 128)) by unfold qidW; rw [hq1])
  have HS := Lib.hid hs3
  clear hs1 hs2 hs3 hq1 hq2 hq3 hv1 hv2 hv3 hl1 hl2 hl3 he1 he2 he3 H0 H1 H2 HZ0 HZ1 HZ2 HK0 HK1 HK2
  by_cases hz : v1 = 0
  · subst hz
    have hF := HZ3.out.setRow [.bool false, .int .i64 v2, .int .i64 p]
    have hks := keeps_setRow w3 (g := Z) #[.bool false, .int .i64 v2, .int .i64 p]
    have HR := Lib.hid (H3.out.below (hks.under (B := Z) (by have := HZ3.out.lt; omega) (fun k hk e => by have e' : k = Z := e; omega)) hZg)
    have HK := Lib.hid (HK3.out.thenB ((hks.under (B := w.heap.size) (by have := HZ3.out.lt; have := HZe.out; omega) (fun k hk e => by have e' : k = Z := e; have := HZe.out; omega))))
    go_wp2_with (refine wpList_storeBlk rfl (.tmp 2) (.tmp 36) rfl rfl [.bool false, .int .i64 v2, .int .i64 p] rfl rfl (by kernel_rfl) HZ3.out rfl (by simp [Value.oneCell']) ?_)
    exact bodyPost_ret (v := .agg #[.bool false, .int .i64 v2, .int .i64 p]) (results_cellBlk Try.results67 rfl hF (by kernel_rfl) qidT_agg) rfl ⟨⟨false, v2, p⟩, wrong, ⟨l3, e3⟩, Lib.hid (by rw [HV.out]; rfl), Lib.hid (by rw [HWr.out]; simp), Lib.hid HS.out.symm, rfl, HR.out, HK.out⟩
  · by_cases hz8 : v1 = 128
    · subst hz8
      have hF := HZ3.out.setRow [.bool true, .int .i64 v2, .int .i64 p]
      have hks := keeps_setRow w3 (g := Z) #[.bool true, .int .i64 v2, .int .i64 p]
      have HR := Lib.hid (H3.out.below (hks.under (B := Z) (by have := HZ3.out.lt; omega) (fun k hk e => by have e' : k = Z := e; omega)) hZg)
      have HK := Lib.hid (HK3.out.thenB ((hks.under (B := w.heap.size) (by have := HZ3.out.lt; have := HZe.out; omega) (fun k hk e => by have e' : k = Z := e; have := HZe.out; omega))))
      go_wp2_with (refine wpList_storeBlk rfl (.tmp 2) (.tmp 36) rfl rfl [.bool true, .int .i64 v2, .int .i64 p] rfl rfl (by kernel_rfl) HZ3.out rfl (by simp [Value.oneCell']) ?_)
      exact bodyPost_ret (v := .agg #[.bool true, .int .i64 v2, .int .i64 p]) (results_cellBlk Try.results67 rfl hF (by kernel_rfl) qidT_agg) rfl ⟨⟨true, v2, p⟩, wrong, ⟨l3, e3⟩, Lib.hid (by rw [HV.out]; rfl), Lib.hid (by rw [HWr.out]; simp), Lib.hid HS.out.symm, rfl, HR.out, HK.out⟩
    · have z0 : ((v1 : Int) != 0) = true := by simp; omega
      have z8 : ((v1 : Int) != 128) = true := by simp; omega
      have z9 : ((v1 : Int) == 128) = false := by simp; omega
      have c20 := H3.out.c20
      have f20 := H3.out.1.free 20
      have h4 := H3.out.mark true
      have hk4 : Keeps (Is g) w3 (w3.setCell ⟨g, 20, none⟩ (.bool true)) := (Keeps.refl (Is g) _).setCell (p := ⟨g, 20, none⟩) (.inl rfl) _
      have hZ4 := HZ3.out.keeps hk4 nZg
      have HK4 := Lib.hid (HK3.out.trans (Keeps.twog (gr := gr) hk4))
      have H4 := Lib.hid h4
      have HZ4 := Lib.hid hZ4
      clear h4 hZ4 hk4
      go_upto_region 6 with fail
      generalize w3.setCell ⟨g, 20, none⟩ (.bool true) = w4 at H4 HZ4 HK4 ⊢
      clear c20 f20
      have hF := HZ4.out.setRow [.bool false, .int .i64 v2, .int .i64 p]
      have hks := keeps_setRow w4 (g := Z) #[.bool false, .int .i64 v2, .int .i64 p]
      have HR := Lib.hid (H4.out.below (hks.under (B := Z) (by have := HZ4.out.lt; omega) (fun k hk e => by have e' : k = Z := e; omega)) hZg)
      have HK := Lib.hid (HK4.out.thenB ((hks.under (B := w.heap.size) (by have := HZ4.out.lt; have := HZe.out; omega) (fun k hk e => by have e' : k = Z := e; have := HZe.out; omega))))
      go_wp2_with (refine wpList_storeBlk rfl (.tmp 2) (.tmp 36) rfl rfl [.bool false, .int .i64 v2, .int .i64 p] rfl rfl (by kernel_rfl) HZ4.out rfl (by simp [Value.oneCell']) ?_)
      exact bodyPost_ret (v := .agg #[.bool false, .int .i64 v2, .int .i64 p]) (results_cellBlk Try.results67 rfl hF (by kernel_rfl) qidT_agg) rfl ⟨⟨false, v2, p⟩, true, ⟨l3, e3⟩, Lib.hid (by rw [HV.out, decide_eq_false hz8]), Lib.hid (by rw [HWr.out]; simp [hz, hz8]), Lib.hid HS.out.symm, rfl, HR.out, HK.out⟩

/-- Some qids that are read. -/
def qsV : Nat → S18 → List QidV
  | 0, _ => []
  | n + 1, s => qidV s :: qsV n (qidS s)
def qsW : Nat → S18 → Bool
  | 0, _ => false
  | n + 1, s => qidW s || qsW n (qidS s)
def qsS : Nat → S18 → S18
  | 0, s => s
  | n + 1, s => qsS n (qidS s)
theorem qsS_snoc : ∀ (n : Nat) (s : S18), qsS (n + 1) s = qidS (qsS n s)
  | 0, s => rfl
  | n + 1, s => by
    show qsS (n + 1) (qidS s) = qidS (qsS n (qidS s))
    exact qsS_snoc n (qidS s)
theorem qsV_snoc : ∀ (n : Nat) (s : S18), qsV (n + 1) s = qsV n s ++ [qidV (qsS n s)]
  | 0, s => rfl
  | n + 1, s => by
    show qidV s :: qsV (n + 1) (qidS s) = qidV s :: qsV n (qidS s) ++ [qidV (qsS n (qidS s))]
    rw [qsV_snoc n (qidS s)]; rfl
theorem qsW_snoc : ∀ (n : Nat) (s : S18), qsW (n + 1) s = (qsW n s || qidW (qsS n s))
  | 0, s => by simp [qsW, qsS]
  | n + 1, s => by
    show (qidW s || qsW (n + 1) (qidS s)) = ((qidW s || qsW n (qidS s)) || qidW (qsS n (qidS s)))
    rw [qsW_snoc n (qidS s), Bool.or_assoc]
theorem qsV_len : ∀ (n : Nat) (s : S18), (qsV n s).length = n
  | 0, _ => rfl
  | n + 1, s => by simp [qsV, qsV_len n]
def qsrV (s : S18) : List QidV := if vl 2 s ≤ 8 then qsV (vl 2 s) (tk 2 s) else []
def qsrW (s : S18) : Bool := if vl 2 s ≤ 8 then qsW (vl 2 s) (tk 2 s) else false
def qsrO (s : S18) : Bool := decide (8 < vl 2 s)
def qsrS (s : S18) : S18 := if vl 2 s ≤ 8 then qsS (vl 2 s) (tk 2 s) else tk 2 s
def RQidsPost (g gr : Nat) (xs : List Value) (over wrong : Bool) (s : S18) (w : World) (e : Ending) (w' : World) : Prop :=
  ∃ (A : Option Addr) (n c : Nat) (qs : List QidV) (ov wr : Bool) (s' : S18), Hid (qs = qsrV s) ∧ Hid (ov = (over || qsrO s)) ∧ Hid (wr = (wrong || qsrW s)) ∧ Hid (s' = qsrS s) ∧ e = .returned (.slice A n c) ∧ OwR w' w.heap.size 23 3 A n c (qs.map qidC) ∧ RrS w' g gr xs ov wr s' ∧ Keeps (Two18 g gr) w w'
def RqJ (g gr : Nat) (xs : List Value) (over wrong : Bool) (n : Nat) (s1 : S18) (w : World) (a' : Act) (w' : World) : Prop :=
  ∃ (j c : Nat) (A : Option Addr) (wr : Bool) (s' : S18), j ≤ n ∧ OwR w' w.heap.size 23 3 A j c ((qsV j s1).map qidC) ∧ Hid (wr = (wrong || qsW j s1)) ∧ Hid (s' = qsS j s1) ∧ RrS w' g gr xs over wr s' ∧ Keeps (Two18 g gr) w w' ∧
    ∃ (u1 u2 u5 u6 u7 u8 u9 u10 u11 u12 u13 u14 u15 u16 u17 u18 u19 u20 u21 u22 u23 u24 u25 : Value), a' = { tmps := #[.pointer (some ⟨g, 0, none⟩), u1, u2, .slice A j c, .int .i64 (n : Nat), u5, u6, u7, u8, u9, u10, u11, u12, u13, u14, u15, u16, u17, u18, u19, u20, u21, u22, u23, u24, u25], defers := [] }
def lenOf : Value → Nat | .slice _ n _ => n | _ => 0
set_option maxRecDepth 20000 in
set_option maxHeartbeats 8000000 in
theorem rQids_any (g gr : Nat) (xs : List Value) (over wrong : Bool) (s : S18) (w : World) (h : RrS w g gr xs over wrong s) :
    Calls Try.prog 68 #[.pointer (some ⟨g, 0, none⟩)] w (RQidsPost g gr xs over wrong s w) := by
  have hgl := h.lt
  have hgr := h.2.2.2
  obtain ⟨n, hn⟩ : ∃ n, n = vl 2 s := ⟨_, rfl⟩
  have hnb : n < 65536 := by have := vl_lt 2 s; rw [← hn] at this; simpa using this
  have c0 := h.c0
  have H := Lib.hid h
  have HN := Lib.hid hn
  clear h hn
  go_enter Try.func68, Try.ntmps68
  go_wp2
  refine wp_scope_jumps2 0 (fun a' w' => (n ≤ 8 → RqJ g gr xs over wrong n (tk 2 s) w a' w') ∧ n ≤ 8) (fun a' _ => n - lenOf (a'.tmps.getD 3 undef)) rfl ?_ ?_
  · rintro a' w' ⟨hJ, hn8⟩
    obtain ⟨j, c, A, wr, s', hj, ho, hwr, hs', hr, hk, u1, u2, u5, u6, u7, u8, u9, u10, u11, u12, u13, u14, u15, u16, u17, u18, u19, u20, u21, u22, u23, u24, u25, rfl⟩ := hJ hn8
    by_cases hlt : j < n
    · have j1 : (j : Int) < n := by omega
      have j2 : j < n := hlt
      have HO := Lib.hid ho
      have HR := Lib.hid hr
      have HK := Lib.hid hk
      have hsz : w.heap.size ≤ w'.heap.size := hk.size
      clear ho hr hk c0
      go_wp2_with fail
      refine (rQid_any g gr xs over wr s' _ HR.out).mono ?_
      rintro e w2 ⟨q, b, s2, hq, hb, hs2, rfl, hr2, hk2⟩
      have HR2 := Lib.hid hr2
      have HK2 := Lib.hid (HK.out.trans hk2)
      have HO2 := Lib.hid (show OwR w2 w.heap.size 23 3 A j c ((qsV j (tk 2 s)).map qidC) from OwR.keeps HO.out hk2 (fun k hk e => by rcases e with e | e <;> omega))
      have hs2z : w'.heap.size ≤ w2.heap.size := hk2.size
      obtain ⟨qd, qv, qp⟩ := q
      have Hsrc := Lib.hid (Src.oneR (P := Try.prog) w2 24 23 Try.underlying24 [.bool qd, .int .i64 qv, .int .i64 qp] rfl (by simp [Value.oneCell']) #[.bool qd, .int .i64 qv, .int .i64 qp] rfl 23)
      have hga : w.heap.size ≤ (w2.alloc (.cells #[.bool qd, .int .i64 qv, .int .i64 qp] 23)).heap.size := by simp; omega
      clear hr2 hk2
      go_wp2_with (at_builtin; go_must (refine wpList_appendR qidsElemS rfl (.tmp 20) (.tmp 23) 24 rfl w.heap.size A j c ((qsV j (tk 2 s)).map qidC) rfl (HO2.out.alloc _) _ rfl [.bool qd, .int .i64 qv, .int .i64 qp] rfl Hsrc.out (by omega) (by omega) hga ?_); intro A3 n3 c3 l3 w3 hl3 hn3 hown3 hb3 hg3; obtain rfl : n3 = j + 1 := hn3.out)
      go_step3
      have hl4 : l3 = (qsV (j + 1) (tk 2 s)).map qidC := by
        rw [hl3.out, qsV_snoc, List.map_append, ← hs'.out, ← hq.out]; rfl
      have hb4 : Below w.heap.size w2 w3 := ((Below.refl _ _).alloc (by omega) _).trans hb3
      have hr4 : RrS w3 g gr xs over b s2 := HR2.out.below hb4 hgl
      have hk4 := HK2.out.thenB hb4
      rw [hl4] at hown3
      refine ⟨rfl, ⟨fun _ => ⟨j + 1, c3, A3, b, s2, by omega, hown3, Lib.hid (by rw [hb.out, hwr.out, qsW_snoc, ← hs'.out, Bool.or_assoc]), Lib.hid (by rw [hs2.out, hs'.out, qsS_snoc]), hr4, hk4, _, _, _, _, _, _, _, _, _, _, _, _, _, _, _, _, _, _, _, _, _, _, _, rfl⟩, hn8⟩, ?_⟩
      simp [lenOf]; omega
    · obtain rfl : j = n := by omega
      have j1 : ¬ (j : Int) < j := by omega
      have HO := Lib.hid ho
      have HR := Lib.hid hr
      have HK := Lib.hid hk
      have h8 : vl 2 s ≤ 8 := by rw [← HN.out]; exact hn8
      have HQV := Lib.hid (show qsrV s = qsV j (tk 2 s) by unfold qsrV; rw [if_pos h8, ← HN.out])
      have HQW := Lib.hid (show qsrW s = qsW j (tk 2 s) by unfold qsrW; rw [if_pos h8, ← HN.out])
      have HQS := Lib.hid (show qsrS s = qsS j (tk 2 s) by unfold qsrS; rw [if_pos h8, ← HN.out])
      have HQO := Lib.hid (show qsrO s = false by unfold qsrO; exact decide_eq_false (by omega))
      clear ho hr hk c0 h8
      go_wp2
      simp only [Exit.jump]
      go_ret
      exact ⟨A, j, c, qsV j (tk 2 s), over, wr, s', Lib.hid HQV.out.symm, Lib.hid (by rw [HQO.out]; simp), Lib.hid (by rw [hwr.out, HQW.out]), Lib.hid (by rw [hs'.out, HQS.out]), rfl, HO.out, HR.out, HK.out⟩
  · intro hpass
    have HP := Lib.hid hpass
    clear hpass
    go_wp2_with fail
    refine (rU16_any gr s.l s.e _ H.out.2.2.1).mono ?_
    rintro x w1 ⟨v, l1, e1, hv, hl1, he1, rfl, hR1, hK1⟩
    have hvn : v = n := by rw [hv.out, HN.out]; rfl
    have hs1 : tk 2 s = ⟨l1, e1⟩ := by unfold tk; rw [hl1.out, he1.out]
    subst hvn
    have H1 := Lib.hid (H.out.next (s' := ⟨l1, e1⟩) hR1 hK1)
    have HK1 := Lib.hid (Keeps.two (g := g) hK1)
    have HS1 := Lib.hid hs1
    clear hR1 hK1 hs1 hl1 he1 hv c0
    by_cases hlong : 8 < v
    · have hli : (8 : Int) < v := by omega
      have c19 := H1.out.c19
      have f19 := H1.out.1.free 19
      have h2 := Lib.hid (H1.out.over19 true)
      have hk2 := Lib.hid (HK1.out.setCell (p := ⟨g, 19, none⟩) (.inl (.inl rfl)) (.bool true))
      have h8 : ¬ vl 2 s ≤ 8 := by rw [← HN.out]; omega
      have HQV := Lib.hid (show qsrV s = [] by unfold qsrV; rw [if_neg h8])
      have HQW := Lib.hid (show qsrW s = false by unfold qsrW; rw [if_neg h8])
      have HQS := Lib.hid (show qsrS s = tk 2 s by unfold qsrS; rw [if_neg h8])
      have HQO := Lib.hid (show qsrO s = true by unfold qsrO; exact decide_eq_true (by omega))
      clear h8
      go_wp2
      simp only [Exit.jump]
      go_ret
      exact ⟨none, 0, 0, [], true, wrong, ⟨l1, e1⟩, Lib.hid HQV.out.symm, Lib.hid (by rw [HQO.out]; simp), Lib.hid (by rw [HQW.out]; simp), Lib.hid (by rw [HQS.out, HS1.out]), rfl, OwR.nil _ _ _ _, h2.out, hk2.out⟩
    · have hli : ¬ (8 : Int) < v := by omega
      go_wp2
      go_step3
      rename_i hKK
      refine hKK _ _ (HP.out _ _ ⟨fun _ => ?_, by omega⟩)
      exact ⟨0, 0, none, wrong, ⟨l1, e1⟩, by omega, OwR.nil _ _ _ _, Lib.hid (by simp [qsW]), Lib.hid (by rw [HS1.out]; rfl), H1.out, HK1.out, _, _, _, _, _, _, _, _, _, _, _, _, _, _, _, _, _, _, _, _, _, _, _, rfl⟩
/-- A stat that is read. -/
def statS (s : S18) : S18 := ⟨txL (tk 8 (tk 4 (qidS s))).l (tk 8 (tk 4 (qidS s))).e, txE (tk 8 (tk 4 (qidS s))).l (tk 8 (tk 4 (qidS s))).e⟩
def statM (s : S18) : Int := (vl 4 (qidS s) : Int)
def statZ (s : S18) : Int := RowKit.wrap64 (vl 8 (tk 4 (qidS s)) : Int)
def statN (s : S18) : List UInt8 := txB (tk 8 (tk 4 (qidS s))).l (tk 8 (tk 4 (qidS s))).e
def RStatPost (g gr : Nat) (xs : List Value) (over wrong : Bool) (s : S18) (w : World) (e : Ending) (w' : World) : Prop :=
  ∃ (q : QidV) (m z : Int) (n : List UInt8) (b : Bool) (s' : S18), Hid (q = qidV s) ∧ Hid (m = statM s) ∧ Hid (z = statZ s) ∧ Hid (n = statN s) ∧ Hid (b = (wrong || qidW s)) ∧ Hid (s' = statS s) ∧ e = .returned (.agg #[.bool q.dir, .int .i64 q.ver, .int .i64 q.path, .int .i64 m, .int .i64 z, .string (st n)]) ∧ RrS w' g gr xs over b s' ∧ Keeps (Two18 g gr) w w'
set_option maxRecDepth 20000 in
set_option maxHeartbeats 8000000 in
theorem rStat_any (g gr : Nat) (xs : List Value) (over wrong : Bool) (s : S18) (w : World) (h : RrS w g gr xs over wrong s) :
    Calls Try.prog 70 #[.pointer (some ⟨g, 0, none⟩)] w (RStatPost g gr xs over wrong s w) := by
  have hZ0 := Blk.new w 27 [.bool false, .int .i64 0, .int .i64 0, .int .i64 0, .int .i64 0, .string ByteArray.empty]
  have hgl := h.lt
  have hgr := h.2.2.2
  obtain ⟨W, hW⟩ : ∃ W, W = w.alloc (.cells #[.bool false, .int .i64 0, .int .i64 0, .int .i64 0, .int .i64 0, .string ByteArray.empty] 27) := ⟨_, rfl⟩
  have hW' : W = w.alloc (.cells [.bool false, .int .i64 0, .int .i64 0, .int .i64 0, .int .i64 0, .string ByteArray.empty].toArray 27) := hW
  have hW2 : W = w.alloc (.cells #[.bool false, .int .i64 0, .int .i64 0, .int .i64 0, .int .i64 0, .string ⟨#[]⟩] 27) := hW
  have h0 : RrS W g gr xs over wrong s := by rw [hW]; exact h.up ((Below.refl _ _).alloc (Nat.le_refl _) _)
  have hk0 : Keeps (Two18 g gr) w W := by rw [hW]; exact (Keeps.refl _ _).alloc _
  rw [← hW'] at hZ0
  obtain ⟨Z, hZ⟩ : ∃ Z, Z = w.heap.size := ⟨_, rfl⟩
  rw [← hZ] at hZ0
  have hZg : g < Z := by omega
  have nZ : ¬ Two18 g gr Z := fun e => by rcases e with e | e <;> omega
  have nZr : ¬ Is gr Z := fun e => by have e' : Z = gr := e; omega
  have H0 := Lib.hid h0
  have HZ0 := Lib.hid hZ0
  have HK0 := Lib.hid hk0
  have HZe := Lib.hid hZ
  clear h h0 hZ0 hk0 hW' hW
  go_enter Try.func70, Try.ntmps70
  go_upto_region 1 with fail
  rw [← hW2, ← hZ]
  clear hW2 hZ
  go_wp2_with fail
  refine (rQid_any g gr xs over wrong s _ H0.out).mono ?_
  rintro e w1 ⟨⟨qd, qv, qp⟩, b, s1, hq, hb, hs1, rfl, hr1, hk1⟩
  have H1 := Lib.hid hr1
  have HZ1 := Lib.hid (HZ0.out.keeps hk1 nZ)
  have HK1 := Lib.hid (HK0.out.trans hk1)
  have hXZ := Blk.new w1 27 [.bool false, .int .i64 0, .int .i64 0, .int .i64 0, .int .i64 0, .string ByteArray.empty]
  have hXa : Blk (w1.alloc (.cells #[.bool false, .int .i64 0, .int .i64 0, .int .i64 0, .int .i64 0, .string ⟨#[]⟩] 27)) w1.heap.size 27 [.bool false, .int .i64 0, .int .i64 0, .int .i64 0, .int .i64 0, .string ByteArray.empty] := hXZ
  obtain ⟨gX, hgX⟩ : ∃ x, x = w1.heap.size := ⟨_, rfl⟩
  have hZX : Z < gX := by have := HZ1.out.lt; omega
  have hKs := keeps_setRow (w1.alloc (.cells #[.bool false, .int .i64 0, .int .i64 0, .int .i64 0, .int .i64 0, .string ⟨#[]⟩] 27)) (g := gX) #[.bool qd, .int .i64 qv, .int .i64 qp, .int .i64 0, .int .i64 0, .string ByteArray.empty]
  have hbk : Below w1.heap.size w1 ((w1.alloc (.cells #[.bool false, .int .i64 0, .int .i64 0, .int .i64 0, .int .i64 0, .string ⟨#[]⟩] 27)).setRow gX #[.bool qd, .int .i64 qv, .int .i64 qp, .int .i64 0, .int .i64 0, .string ByteArray.empty]) := ((Below.refl _ _).alloc (Nat.le_refl _) _).trans (hKs.is (by omega) (by rw [hgX]; simp))
  have hX2 : Blk ((w1.alloc (.cells #[.bool false, .int .i64 0, .int .i64 0, .int .i64 0, .int .i64 0, .string ⟨#[]⟩] 27)).setRow gX #[.bool qd, .int .i64 qv, .int .i64 qp, .int .i64 0, .int .i64 0, .string ByteArray.empty]) gX 27 [.bool qd, .int .i64 qv, .int .i64 qp, .int .i64 0, .int .i64 0, .string ByteArray.empty] := by rw [hgX]; exact hXa.setRow [.bool qd, .int .i64 qv, .int .i64 qp, .int .i64 0, .int .i64 0, .string ByteArray.empty]
  have H2 := Lib.hid (H1.out.up hbk)
  have HZ2 := Lib.hid (HZ1.out.up hbk)
  have HK2 := Lib.hid (HK1.out.trans (Keeps.of_below hbk))
  have HX2 := Lib.hid hX2
  have HGX := Lib.hid hgX
  clear hr1 hk1 hXZ hKs hbk hX2 hgX
  go_upto_region 2 with (refine wpList_storeBlk rfl (.tmp 3) (.tmp 6) rfl rfl [.bool qd, .int .i64 qv, .int .i64 qp, .int .i64 0, .int .i64 0, .string ByteArray.empty] rfl rfl (by kernel_rfl) hXa rfl (by simp [Value.oneCell']) ?_)
  rw [← HGX.out]
  generalize (w1.alloc (.cells #[.bool false, .int .i64 0, .int .i64 0, .int .i64 0, .int .i64 0, .string ⟨#[]⟩] 27)).setRow gX #[.bool qd, .int .i64 qv, .int .i64 qp, .int .i64 0, .int .i64 0, .string ByteArray.empty] = w2 at H2 HZ2 HK2 HX2 ⊢
  clear hXa
  have hgX' : gr < gX := by omega
  have nX : ¬ Is gr gX := fun e => by have e' : gX = gr := e; omega
  have c0 := H2.out.c0
  go_wp2_with fail
  refine (rU32_any gr s1.l s1.e _ H2.out.2.2.1).mono ?_
  rintro x w3 ⟨v2, l2, e2, hv2, hl2, he2, rfl, hR3, hK3⟩
  have hs2 : tk 4 s1 = ⟨l2, e2⟩ := by unfold tk; rw [hl2.out, he2.out]
  have hq2 : vl 4 s1 = v2 := by unfold vl; rw [hv2.out]
  have b2 : v2 < 4294967296 := by have := vl_lt 4 s1; rw [hq2] at this; simpa using this
  have h3 := H2.out.next (s' := ⟨l2, e2⟩) hR3 hK3
  have hX3 := HX2.out.keeps hK3 nX
  have x3 := hX3.cell 3 _ rfl
  have f3 := hX3.free 3
  have hX4 := hX3.set 3 (.int .i64 v2)
  have hk4 : Keeps (Is gX) w3 (w3.setCell ⟨gX, 3, none⟩ (.int .i64 v2)) := (Keeps.refl (Is gX) _).setCell (p := ⟨gX, 3, none⟩) (.inl rfl) _
  have H4 := Lib.hid (h3.below (hk4.under (B := gX) (by have := hX3.lt; omega) (fun k hk e => by have e' : k = gX := e; omega)) (by omega))
  have HZ4 := Lib.hid ((HZ2.out.keeps hK3 nZr).keeps hk4 (fun e => by have e' : Z = gX := e; omega))
  have HK4 := Lib.hid ((HK2.out.trans (Keeps.two (g := g) hK3)).thenB (hk4.under (B := w.heap.size) (by have := hX3.lt; have := HZe.out; omega) (fun k hk e => by have e' : k = gX := e; have := HZe.out; omega)))
  have HX4 := Lib.hid hX4
  have HS2 := Lib.hid hs2
  have HQ2 := Lib.hid hq2
  clear hR3 hK3 c0 h3 hX3 hX4 hk4 hs2 hq2 hv2 hl2 he2
  go_upto_region 3 with fail
  generalize w3.setCell ⟨gX, 3, none⟩ (.int .i64 v2) = w4 at H4 HZ4 HK4 HX4 ⊢
  clear x3 f3
  have c0 := H4.out.c0
  go_wp2_with fail
  refine (rU64_any gr l2 e2 _ H4.out.2.2.1).mono ?_
  rintro x w5 ⟨v3, l3, e3, hv3, hl3, he3, rfl, hR5, hK5⟩
  have hs3 : tk 8 (tk 4 s1) = ⟨l3, e3⟩ := by rw [HS2.out]; unfold tk; rw [hl3.out, he3.out]
  have hq3 : vl 8 (tk 4 s1) = v3 := by rw [HS2.out]; unfold vl; rw [hv3.out]
  have b3 : v3 < 18446744073709551616 := by have := vl_lt 8 (tk 4 s1); rw [hq3] at this; simpa using this
  obtain ⟨p, hp⟩ : ∃ p, RowKit.wrap64 (v3 : Int) = p := ⟨_, rfl⟩
  have h5 := H4.out.next (s' := ⟨l3, e3⟩) hR5 hK5
  have hX5 := HX4.out.keeps hK5 nX
  have x4 := hX5.cell 4 _ rfl
  have f4 := hX5.free 4
  have hX6 := hX5.set 4 (.int .i64 p)
  have hk6 : Keeps (Is gX) w5 (w5.setCell ⟨gX, 4, none⟩ (.int .i64 p)) := (Keeps.refl (Is gX) _).setCell (p := ⟨gX, 4, none⟩) (.inl rfl) _
  have H6 := Lib.hid (h5.below (hk6.under (B := gX) (by have := hX5.lt; omega) (fun k hk e => by have e' : k = gX := e; omega)) (by omega))
  have HZ6 := Lib.hid ((HZ4.out.keeps hK5 nZr).keeps hk6 (fun e => by have e' : Z = gX := e; omega))
  have HK6 := Lib.hid ((HK4.out.trans (Keeps.two (g := g) hK5)).thenB (hk6.under (B := w.heap.size) (by have := hX5.lt; have := HZe.out; omega) (fun k hk e => by have e' : k = gX := e; have := HZe.out; omega)))
  have HX6 := Lib.hid hX6
  have HS3 := Lib.hid hs3
  have HQ3 := Lib.hid (show RowKit.wrap64 (vl 8 (tk 4 s1) : Int) = p by rw [hq3, hp])
  clear hR5 hK5 c0 h5 hX5 hX6 hk6 hs3 hq3 hv3 hl3 he3
  go_upto_region 4 with fail
  generalize w5.setCell ⟨gX, 4, none⟩ (.int .i64 p) = w6 at H6 HZ6 HK6 HX6 ⊢
  clear x4 f4
  have c0 := H6.out.c0
  go_wp2_with fail
  refine (rText_any gr l3 e3 _ H6.out.2.2.1).mono ?_
  rintro x w7 ⟨n1, l4, e4, hn1, hl4, he4, rfl, hR7, hK7⟩
  have h7 := H6.out.next (s' := ⟨l4, e4⟩) hR7 hK7
  have hX7 := HX6.out.keeps hK7 nX
  have x5 := hX7.cell 5 _ rfl
  have f5 := hX7.free 5
  have hX8 := hX7.set 5 (.string (st n1))
  have hk8 : Keeps (Is gX) w7 (w7.setCell ⟨gX, 5, none⟩ (.string (st n1))) := (Keeps.refl (Is gX) _).setCell (p := ⟨gX, 5, none⟩) (.inl rfl) _
  have H8 := Lib.hid (h7.below (hk8.under (B := gX) (by have := hX7.lt; omega) (fun k hk e => by have e' : k = gX := e; omega)) (by omega))
  have HZ8 := Lib.hid ((HZ6.out.keeps hK7 nZr).keeps hk8 (fun e => by have e' : Z = gX := e; omega))
  have HK8 := Lib.hid ((HK6.out.trans (Keeps.two (g := g) hK7)).thenB (hk8.under (B := w.heap.size) (by have := hX7.lt; have := HZe.out; omega) (fun k hk e => by have e' : k = gX := e; have := HZe.out; omega)))
  have HX8 := Lib.hid hX8
  clear hR7 hK7 c0 h7 hX7 hX8 hk8
  go_upto_region 5 with fail
  generalize w7.setCell ⟨gX, 5, none⟩ (.string (st n1)) = w8 at H8 HZ8 HK8 HX8 ⊢
  clear x5 f5
  have hXf := HX8.out
  have hF := HZ8.out.setRow [.bool qd, .int .i64 qv, .int .i64 qp, .int .i64 v2, .int .i64 p, .string (st n1)]
  have hks := keeps_setRow w8 (g := Z) #[.bool qd, .int .i64 qv, .int .i64 qp, .int .i64 v2, .int .i64 p, .string (st n1)]
  have HR := Lib.hid (H8.out.below (hks.under (B := Z) (by have := HZ8.out.lt; omega) (fun k hk e => by have e' : k = Z := e; omega)) hZg)
  have HK := Lib.hid (HK8.out.thenB ((hks.under (B := w.heap.size) (by have := HZ8.out.lt; have := HZe.out; omega) (fun k hk e => by have e' : k = Z := e; have := HZe.out; omega))))
  go_wp2_with first
    | (refine wpList_loadBlk rfl (.tmp 3) rfl rfl (by kernel_rfl) statT_agg hXf ?_; simp only [Act.put, List.setIfInBounds_toArray, List.set_cons_succ, List.set_cons_zero])
    | (refine wpList_storeBlk rfl (.tmp 2) (.tmp 27) rfl rfl [.bool qd, .int .i64 qv, .int .i64 qp, .int .i64 v2, .int .i64 p, .string (st n1)] rfl rfl (by kernel_rfl) HZ8.out rfl (by simp [Value.oneCell']) ?_)
  refine bodyPost_ret (v := .agg #[.bool qd, .int .i64 qv, .int .i64 qp, .int .i64 v2, .int .i64 p, .string (st n1)]) (results_cellBlk Try.results70 rfl hF (by kernel_rfl) statT_agg) rfl ⟨⟨qd, qv, qp⟩, v2, p, n1, b, ⟨l4, e4⟩, hq, Lib.hid ?_, Lib.hid ?_, Lib.hid ?_, hb, Lib.hid ?_, rfl, HR.out, HK.out⟩
  · unfold statM; rw [← hs1.out, HQ2.out]
  · unfold statZ; rw [← hs1.out, HQ3.out]
  · unfold statN; rw [← hs1.out, HS3.out]; exact hn1.out
  · unfold statS; rw [← hs1.out, HS3.out, hl4.out, he4.out]

/-- The reader in block g holds the reply t; its Qids and Data are its own. -/
def RrT (w : World) (g gr : Nat) (t : TellV) (over wrong : Bool) (s : S18) : Prop :=
  ∃ Aq nq cq Ad nd cd, RrS w g gr (tellC t Aq nq cq Ad nd cd) over wrong s ∧ OwR w (g + 1) 23 3 Aq nq cq (t.qids.map qidC) ∧ OwB w (g + 1) Ad nd cd t.data
theorem RrT.lt {w : World} {g gr : Nat} {t : TellV} {over wrong : Bool} {s : S18} (h : RrT w g gr t over wrong s) : g < w.heap.size := by obtain ⟨_, _, _, _, _, _, h, _⟩ := h; exact h.lt
theorem RrT.gr {w : World} {g gr : Nat} {t : TellV} {over wrong : Bool} {s : S18} (h : RrT w g gr t over wrong s) : gr < g := by obtain ⟨_, _, _, _, _, _, h, _⟩ := h; exact h.2.2.2
/-- The reply, a part of which is read; what is left; is a qid of no kind; are there too many. -/
def rpT (k : Int) (t : TellV) (s : S18) : TellV :=
  if k = 0 then { t with msize := (vl 4 s : Int) } else if k = 1 then { t with iounit := (vl 4 s : Int) } else if k = 2 then { t with count := (vl 4 s : Int) } else if k = 3 then { t with code := (vl 2 s : Int) } else if k = 4 then { t with name := txB s.l s.e } else if k = 5 then { t with qid := qidV s } else if k = 6 then { t with qids := qsrV s } else if k = 7 then { t with data := dtB s.l s.e 1024 } else if k = 8 then { t with sqid := qidV s, smode := statM s, ssize := statZ s, sname := statN s } else t
def rpS (k : Int) (s : S18) : S18 :=
  if k = 0 then tk 4 s else if k = 1 then tk 4 s else if k = 2 then tk 4 s else if k = 3 then tk 2 s else if k = 4 then ⟨txL s.l s.e, txE s.l s.e⟩ else if k = 5 then qidS s else if k = 6 then qsrS s else if k = 7 then ⟨dtL s.l s.e 1024, dtE s.l s.e 1024⟩ else if k = 8 then statS s else s
def rpW (k : Int) (s : S18) : Bool := if k = 5 then qidW s else if k = 6 then qsrW s else if k = 8 then qidW s else false
def rpO (k : Int) (s : S18) : Bool := if k = 6 then qsrO s else false
def PartR (g gr : Nat) (t : TellV) (over wrong : Bool) (s : S18) (w : World) (e : Ending) (w' : World) : Prop :=
  e = .returned (.tuple #[]) ∧ ∃ t' ov wr s', Hid (t' = t) ∧ Hid (ov = over) ∧ Hid (wr = wrong) ∧ Hid (s' = s) ∧ RrT w' g gr t' ov wr s' ∧ Keeps (Two18 g gr) w w'
set_option maxRecDepth 20000 in
set_option maxHeartbeats 4000000 in
theorem rPart_0 (g gr : Nat) (t : TellV) (over wrong : Bool) (s : S18) (w : World) (h : RrT w g gr t over wrong s) (hsl : s.l.length ≤ 1048576) :
    Calls Try.prog 47 #[.pointer (some ⟨g, 0, none⟩), .int .i64 0] w (PartR g gr (rpT 0 t s) (over || rpO 0 s) (wrong || rpW 0 s) (rpS 0 s) w) := by
  obtain ⟨kind, tag, code, msize, iounit, count, name, ⟨qdir, qver, qpath⟩, qids, data, ⟨sdir, sver, spath⟩, smode, ssize, sname⟩ := t
  have hgl := h.lt
  have hgr := h.gr
  obtain ⟨Aq, nq, cq, Ad, nd, cd, hw, hq, hd⟩ := h
  have HQ := Lib.hid hq
  have HD := Lib.hid hd
  have HW := Lib.hid hw
  have c0 := hw.c0
  clear hw hq hd
  go_enter Try.func47, Try.ntmps47
  go_wp2_with fail
  refine (rU32_any gr s.l s.e _ HW.out.2.2.1).mono ?_
  rintro x w1 ⟨v, l1, e1, hv, hl1, he1, rfl, hR1, hK1⟩
  have hs1 : tk 4 s = ⟨l1, e1⟩ := by unfold tk; rw [hl1.out, he1.out]
  have hq1 : vl 4 s = v := by unfold vl; rw [hv.out]
  have b1 : v < 4294967296 := by have := vl_lt 4 s; rw [hq1] at this; simpa using this
  have HS1 := Lib.hid hs1
  have HQ1 := Lib.hid hq1
  clear hs1 hq1 hv hl1 he1
  have h1 := HW.out.next (s' := ⟨l1, e1⟩) hR1 hK1
  have x1 := h1.1.cell 4 _ (rr_at h1.2.1 rfl)
  have f1 := h1.1.free 4
  have hk2 : Keeps (Is g) w1 (w1.setCell ⟨g, 4, none⟩ (.int .i64 v)) := (Keeps.refl (Is g) _).setCell (p := ⟨g, 4, none⟩) (.inl rfl) _
  have HK2 := Lib.hid ((Keeps.two (g := g) hK1).trans (Keeps.twog (gr := gr) hk2))
  have H2 := Lib.hid (h1.field (i := 3) (by omega) (.int .i64 v))
  have HQ2 := Lib.hid (OwR.keeps HQ.out HK2.out (fun k hk => two_g hgr hk))
  have HD2 := Lib.hid (OwB.keeps HD.out HK2.out (fun k hk => two_g hgr hk))
  clear c0 hR1 hK1 h1 hk2
  go_wp2
  go_end0
  exact ⟨rfl, (⟨kind, tag, code, (v : Int), iounit, count, name, ⟨qdir, qver, qpath⟩, qids, data, ⟨sdir, sver, spath⟩, smode, ssize, sname⟩ : TellV), over, wrong, ⟨l1, e1⟩, Lib.hid (by rw [← HQ1.out]; rfl), Lib.hid (by simp [rpO]), Lib.hid (by simp [rpW]), Lib.hid (by rw [← HS1.out]; rfl), ⟨Aq, nq, cq, Ad, nd, cd, H2.out, HQ2.out, HD2.out⟩, HK2.out⟩
set_option maxRecDepth 20000 in
set_option maxHeartbeats 4000000 in
theorem rPart_1 (g gr : Nat) (t : TellV) (over wrong : Bool) (s : S18) (w : World) (h : RrT w g gr t over wrong s) (hsl : s.l.length ≤ 1048576) :
    Calls Try.prog 47 #[.pointer (some ⟨g, 0, none⟩), .int .i64 1] w (PartR g gr (rpT 1 t s) (over || rpO 1 s) (wrong || rpW 1 s) (rpS 1 s) w) := by
  obtain ⟨kind, tag, code, msize, iounit, count, name, ⟨qdir, qver, qpath⟩, qids, data, ⟨sdir, sver, spath⟩, smode, ssize, sname⟩ := t
  have hgl := h.lt
  have hgr := h.gr
  obtain ⟨Aq, nq, cq, Ad, nd, cd, hw, hq, hd⟩ := h
  have HQ := Lib.hid hq
  have HD := Lib.hid hd
  have HW := Lib.hid hw
  have c0 := hw.c0
  clear hw hq hd
  go_enter Try.func47, Try.ntmps47
  go_wp2_with fail
  refine (rU32_any gr s.l s.e _ HW.out.2.2.1).mono ?_
  rintro x w1 ⟨v, l1, e1, hv, hl1, he1, rfl, hR1, hK1⟩
  have hs1 : tk 4 s = ⟨l1, e1⟩ := by unfold tk; rw [hl1.out, he1.out]
  have hq1 : vl 4 s = v := by unfold vl; rw [hv.out]
  have b1 : v < 4294967296 := by have := vl_lt 4 s; rw [hq1] at this; simpa using this
  have HS1 := Lib.hid hs1
  have HQ1 := Lib.hid hq1
  clear hs1 hq1 hv hl1 he1
  have h1 := HW.out.next (s' := ⟨l1, e1⟩) hR1 hK1
  have x1 := h1.1.cell 5 _ (rr_at h1.2.1 rfl)
  have f1 := h1.1.free 5
  have hk2 : Keeps (Is g) w1 (w1.setCell ⟨g, 5, none⟩ (.int .i64 v)) := (Keeps.refl (Is g) _).setCell (p := ⟨g, 5, none⟩) (.inl rfl) _
  have HK2 := Lib.hid ((Keeps.two (g := g) hK1).trans (Keeps.twog (gr := gr) hk2))
  have H2 := Lib.hid (h1.field (i := 4) (by omega) (.int .i64 v))
  have HQ2 := Lib.hid (OwR.keeps HQ.out HK2.out (fun k hk => two_g hgr hk))
  have HD2 := Lib.hid (OwB.keeps HD.out HK2.out (fun k hk => two_g hgr hk))
  clear c0 hR1 hK1 h1 hk2
  go_wp2
  go_end0
  exact ⟨rfl, (⟨kind, tag, code, msize, (v : Int), count, name, ⟨qdir, qver, qpath⟩, qids, data, ⟨sdir, sver, spath⟩, smode, ssize, sname⟩ : TellV), over, wrong, ⟨l1, e1⟩, Lib.hid (by rw [← HQ1.out]; rfl), Lib.hid (by simp [rpO]), Lib.hid (by simp [rpW]), Lib.hid (by rw [← HS1.out]; rfl), ⟨Aq, nq, cq, Ad, nd, cd, H2.out, HQ2.out, HD2.out⟩, HK2.out⟩
set_option maxRecDepth 20000 in
set_option maxHeartbeats 4000000 in
theorem rPart_2 (g gr : Nat) (t : TellV) (over wrong : Bool) (s : S18) (w : World) (h : RrT w g gr t over wrong s) (hsl : s.l.length ≤ 1048576) :
    Calls Try.prog 47 #[.pointer (some ⟨g, 0, none⟩), .int .i64 2] w (PartR g gr (rpT 2 t s) (over || rpO 2 s) (wrong || rpW 2 s) (rpS 2 s) w) := by
  obtain ⟨kind, tag, code, msize, iounit, count, name, ⟨qdir, qver, qpath⟩, qids, data, ⟨sdir, sver, spath⟩, smode, ssize, sname⟩ := t
  have hgl := h.lt
  have hgr := h.gr
  obtain ⟨Aq, nq, cq, Ad, nd, cd, hw, hq, hd⟩ := h
  have HQ := Lib.hid hq
  have HD := Lib.hid hd
  have HW := Lib.hid hw
  have c0 := hw.c0
  clear hw hq hd
  go_enter Try.func47, Try.ntmps47
  go_wp2_with fail
  refine (rU32_any gr s.l s.e _ HW.out.2.2.1).mono ?_
  rintro x w1 ⟨v, l1, e1, hv, hl1, he1, rfl, hR1, hK1⟩
  have hs1 : tk 4 s = ⟨l1, e1⟩ := by unfold tk; rw [hl1.out, he1.out]
  have hq1 : vl 4 s = v := by unfold vl; rw [hv.out]
  have b1 : v < 4294967296 := by have := vl_lt 4 s; rw [hq1] at this; simpa using this
  have HS1 := Lib.hid hs1
  have HQ1 := Lib.hid hq1
  clear hs1 hq1 hv hl1 he1
  have h1 := HW.out.next (s' := ⟨l1, e1⟩) hR1 hK1
  have x1 := h1.1.cell 6 _ (rr_at h1.2.1 rfl)
  have f1 := h1.1.free 6
  have hk2 : Keeps (Is g) w1 (w1.setCell ⟨g, 6, none⟩ (.int .i64 v)) := (Keeps.refl (Is g) _).setCell (p := ⟨g, 6, none⟩) (.inl rfl) _
  have HK2 := Lib.hid ((Keeps.two (g := g) hK1).trans (Keeps.twog (gr := gr) hk2))
  have H2 := Lib.hid (h1.field (i := 5) (by omega) (.int .i64 v))
  have HQ2 := Lib.hid (OwR.keeps HQ.out HK2.out (fun k hk => two_g hgr hk))
  have HD2 := Lib.hid (OwB.keeps HD.out HK2.out (fun k hk => two_g hgr hk))
  clear c0 hR1 hK1 h1 hk2
  go_wp2
  go_end0
  exact ⟨rfl, (⟨kind, tag, code, msize, iounit, (v : Int), name, ⟨qdir, qver, qpath⟩, qids, data, ⟨sdir, sver, spath⟩, smode, ssize, sname⟩ : TellV), over, wrong, ⟨l1, e1⟩, Lib.hid (by rw [← HQ1.out]; rfl), Lib.hid (by simp [rpO]), Lib.hid (by simp [rpW]), Lib.hid (by rw [← HS1.out]; rfl), ⟨Aq, nq, cq, Ad, nd, cd, H2.out, HQ2.out, HD2.out⟩, HK2.out⟩
set_option maxRecDepth 20000 in
set_option maxHeartbeats 4000000 in
theorem rPart_3 (g gr : Nat) (t : TellV) (over wrong : Bool) (s : S18) (w : World) (h : RrT w g gr t over wrong s) (hsl : s.l.length ≤ 1048576) :
    Calls Try.prog 47 #[.pointer (some ⟨g, 0, none⟩), .int .i64 3] w (PartR g gr (rpT 3 t s) (over || rpO 3 s) (wrong || rpW 3 s) (rpS 3 s) w) := by
  obtain ⟨kind, tag, code, msize, iounit, count, name, ⟨qdir, qver, qpath⟩, qids, data, ⟨sdir, sver, spath⟩, smode, ssize, sname⟩ := t
  have hgl := h.lt
  have hgr := h.gr
  obtain ⟨Aq, nq, cq, Ad, nd, cd, hw, hq, hd⟩ := h
  have HQ := Lib.hid hq
  have HD := Lib.hid hd
  have HW := Lib.hid hw
  have c0 := hw.c0
  clear hw hq hd
  go_enter Try.func47, Try.ntmps47
  go_wp2_with fail
  refine (rU16_any gr s.l s.e _ HW.out.2.2.1).mono ?_
  rintro x w1 ⟨v, l1, e1, hv, hl1, he1, rfl, hR1, hK1⟩
  have hs1 : tk 2 s = ⟨l1, e1⟩ := by unfold tk; rw [hl1.out, he1.out]
  have hq1 : vl 2 s = v := by unfold vl; rw [hv.out]
  have b1 : v < 65536 := by have := vl_lt 2 s; rw [hq1] at this; simpa using this
  have HS1 := Lib.hid hs1
  have HQ1 := Lib.hid hq1
  clear hs1 hq1 hv hl1 he1
  have h1 := HW.out.next (s' := ⟨l1, e1⟩) hR1 hK1
  have x1 := h1.1.cell 3 _ (rr_at h1.2.1 rfl)
  have f1 := h1.1.free 3
  have hk2 : Keeps (Is g) w1 (w1.setCell ⟨g, 3, none⟩ (.int .i64 v)) := (Keeps.refl (Is g) _).setCell (p := ⟨g, 3, none⟩) (.inl rfl) _
  have HK2 := Lib.hid ((Keeps.two (g := g) hK1).trans (Keeps.twog (gr := gr) hk2))
  have H2 := Lib.hid (h1.field (i := 2) (by omega) (.int .i64 v))
  have HQ2 := Lib.hid (OwR.keeps HQ.out HK2.out (fun k hk => two_g hgr hk))
  have HD2 := Lib.hid (OwB.keeps HD.out HK2.out (fun k hk => two_g hgr hk))
  clear c0 hR1 hK1 h1 hk2
  go_wp2
  go_end0
  exact ⟨rfl, (⟨kind, tag, (v : Int), msize, iounit, count, name, ⟨qdir, qver, qpath⟩, qids, data, ⟨sdir, sver, spath⟩, smode, ssize, sname⟩ : TellV), over, wrong, ⟨l1, e1⟩, Lib.hid (by rw [← HQ1.out]; rfl), Lib.hid (by simp [rpO]), Lib.hid (by simp [rpW]), Lib.hid (by rw [← HS1.out]; rfl), ⟨Aq, nq, cq, Ad, nd, cd, H2.out, HQ2.out, HD2.out⟩, HK2.out⟩
set_option maxRecDepth 20000 in
set_option maxHeartbeats 4000000 in
theorem rPart_4 (g gr : Nat) (t : TellV) (over wrong : Bool) (s : S18) (w : World) (h : RrT w g gr t over wrong s) (hsl : s.l.length ≤ 1048576) :
    Calls Try.prog 47 #[.pointer (some ⟨g, 0, none⟩), .int .i64 4] w (PartR g gr (rpT 4 t s) (over || rpO 4 s) (wrong || rpW 4 s) (rpS 4 s) w) := by
  obtain ⟨kind, tag, code, msize, iounit, count, name, ⟨qdir, qver, qpath⟩, qids, data, ⟨sdir, sver, spath⟩, smode, ssize, sname⟩ := t
  have hgl := h.lt
  have hgr := h.gr
  obtain ⟨Aq, nq, cq, Ad, nd, cd, hw, hq, hd⟩ := h
  have HQ := Lib.hid hq
  have HD := Lib.hid hd
  have HW := Lib.hid hw
  have c0 := hw.c0
  clear hw hq hd
  go_enter Try.func47, Try.ntmps47
  go_wp2_with fail
  refine (rText_any gr s.l s.e _ HW.out.2.2.1).mono ?_
  rintro x w1 ⟨v, l1, e1, hv, hl1, he1, rfl, hR1, hK1⟩
  have h1 := HW.out.next (s' := ⟨l1, e1⟩) hR1 hK1
  have x1 := h1.1.cell 7 _ (rr_at h1.2.1 rfl)
  have f1 := h1.1.free 7
  have hk2 : Keeps (Is g) w1 (w1.setCell ⟨g, 7, none⟩ (.string (st v))) := (Keeps.refl (Is g) _).setCell (p := ⟨g, 7, none⟩) (.inl rfl) _
  have HK2 := Lib.hid ((Keeps.two (g := g) hK1).trans (Keeps.twog (gr := gr) hk2))
  have H2 := Lib.hid (h1.field (i := 6) (by omega) (.string (st v)))
  have HQ2 := Lib.hid (OwR.keeps HQ.out HK2.out (fun k hk => two_g hgr hk))
  have HD2 := Lib.hid (OwB.keeps HD.out HK2.out (fun k hk => two_g hgr hk))
  clear c0 hR1 hK1 h1 hk2
  go_wp2
  go_end0
  exact ⟨rfl, (⟨kind, tag, code, msize, iounit, count, v, ⟨qdir, qver, qpath⟩, qids, data, ⟨sdir, sver, spath⟩, smode, ssize, sname⟩ : TellV), over, wrong, ⟨l1, e1⟩, Lib.hid (by rw [hv.out]; rfl), Lib.hid (by simp [rpO]), Lib.hid (by simp [rpW]), Lib.hid (by rw [hl1.out, he1.out]; rfl), ⟨Aq, nq, cq, Ad, nd, cd, H2.out, HQ2.out, HD2.out⟩, HK2.out⟩
set_option maxRecDepth 20000 in
set_option maxHeartbeats 4000000 in
theorem rPart_5 (g gr : Nat) (t : TellV) (over wrong : Bool) (s : S18) (w : World) (h : RrT w g gr t over wrong s) (hsl : s.l.length ≤ 1048576) :
    Calls Try.prog 47 #[.pointer (some ⟨g, 0, none⟩), .int .i64 5] w (PartR g gr (rpT 5 t s) (over || rpO 5 s) (wrong || rpW 5 s) (rpS 5 s) w) := by
  obtain ⟨kind, tag, code, msize, iounit, count, name, ⟨qdir, qver, qpath⟩, qids, data, ⟨sdir, sver, spath⟩, smode, ssize, sname⟩ := t
  have hgl := h.lt
  have hgr := h.gr
  obtain ⟨Aq, nq, cq, Ad, nd, cd, hw, hq, hd⟩ := h
  have HQ := Lib.hid hq
  have HD := Lib.hid hd
  have HW := Lib.hid hw
  have c0 := hw.c0
  clear hw hq hd
  have c0' := c0
  clear c0'
  go_enter Try.func47, Try.ntmps47
  go_wp2_with fail
  refine (rQid_any g gr _ over wrong s _ HW.out).mono ?_
  rintro e w1 ⟨⟨qd, qv, qp⟩, b, s', hqv, hb, hs', rfl, hr1, hk1⟩
  have HQ1 := Lib.hid (OwR.keeps HQ.out hk1 (fun k hk => two_g hgr hk))
  have HD1 := Lib.hid (OwB.keeps HD.out hk1 (fun k hk => two_g hgr hk))
  have hB1 := hr1.1
  have hs := hB1.setRow (.pointer (some ⟨gr, 0, none⟩) :: (tellC (⟨kind, tag, code, msize, iounit, count, name, ⟨qd, qv, qp⟩, qids, data, ⟨sdir, sver, spath⟩, smode, ssize, sname⟩ : TellV) Aq nq cq Ad nd cd ++ [Value.bool over, Value.bool b]))
  have hks := keeps_setRow w1 (g := g) (.pointer (some ⟨gr, 0, none⟩) :: (tellC (⟨kind, tag, code, msize, iounit, count, name, ⟨qd, qv, qp⟩, qids, data, ⟨sdir, sver, spath⟩, smode, ssize, sname⟩ : TellV) Aq nq cq Ad nd cd ++ [Value.bool over, Value.bool b])).toArray
  have HK2 := Lib.hid (hk1.trans (Keeps.twog (gr := gr) hks))
  have H2 := Lib.hid (show RrS (w1.setRow g (.pointer (some ⟨gr, 0, none⟩) :: (tellC (⟨kind, tag, code, msize, iounit, count, name, ⟨qd, qv, qp⟩, qids, data, ⟨sdir, sver, spath⟩, smode, ssize, sname⟩ : TellV) Aq nq cq Ad nd cd ++ [Value.bool over, Value.bool b])).toArray) g gr (tellC (⟨kind, tag, code, msize, iounit, count, name, ⟨qd, qv, qp⟩, qids, data, ⟨sdir, sver, spath⟩, smode, ssize, sname⟩ : TellV) Aq nq cq Ad nd cd) over b s' from ⟨hs, rfl, hr1.2.2.1.keeps hks (fun k hk e => by have e' : k = g := e; omega), hgr⟩)
  have HQ2 := Lib.hid (OwR.keeps HQ1.out hks (fun k hk e => by have e' : k = g := e; omega))
  have HD2 := Lib.hid (OwB.keeps HD1.out hks (fun k hk e => by have e' : k = g := e; omega))
  clear c0 hr1 hk1 hs hks
  go_wp2_with (refine wpList_storeMid8 rfl (.tmp 69) (.tmp 67) rfl rfl [.bool qd, .int .i64 qv, .int .i64 qp] (.pointer (some ⟨gr, 0, none⟩) :: (tellC (⟨kind, tag, code, msize, iounit, count, name, ⟨qd, qv, qp⟩, qids, data, ⟨sdir, sver, spath⟩, smode, ssize, sname⟩ : TellV) Aq nq cq Ad nd cd ++ [Value.bool over, Value.bool b])) rfl rfl (by kernel_rfl) hB1 (by simp [tellC]) (by simp [Value.oneCell']) rfl ?_)
  go_end0
  exact ⟨rfl, (⟨kind, tag, code, msize, iounit, count, name, ⟨qd, qv, qp⟩, qids, data, ⟨sdir, sver, spath⟩, smode, ssize, sname⟩ : TellV), over, b, s', Lib.hid (by rw [hqv.out]; rfl), Lib.hid (by simp [rpO]), Lib.hid (by rw [hb.out]; rfl), Lib.hid (by rw [hs'.out]; rfl), ⟨Aq, nq, cq, Ad, nd, cd, H2.out, HQ2.out, HD2.out⟩, HK2.out⟩
set_option maxRecDepth 20000 in
set_option maxHeartbeats 4000000 in
theorem rPart_6 (g gr : Nat) (t : TellV) (over wrong : Bool) (s : S18) (w : World) (h : RrT w g gr t over wrong s) (hsl : s.l.length ≤ 1048576) :
    Calls Try.prog 47 #[.pointer (some ⟨g, 0, none⟩), .int .i64 6] w (PartR g gr (rpT 6 t s) (over || rpO 6 s) (wrong || rpW 6 s) (rpS 6 s) w) := by
  obtain ⟨kind, tag, code, msize, iounit, count, name, ⟨qdir, qver, qpath⟩, qids, data, ⟨sdir, sver, spath⟩, smode, ssize, sname⟩ := t
  have hgl := h.lt
  have hgr := h.gr
  obtain ⟨Aq, nq, cq, Ad, nd, cd, hw, hq, hd⟩ := h
  have HQ := Lib.hid hq
  have HD := Lib.hid hd
  have HW := Lib.hid hw
  have c0 := hw.c0
  clear hw hq hd
  go_enter Try.func47, Try.ntmps47
  go_wp2_with fail
  refine (rQids_any g gr _ over wrong s _ HW.out).mono ?_
  rintro e w1 ⟨A, n, c, qs, ov, wr, s', hqs, hov, hwr, hs', rfl, hoq, hr1, hk1⟩
  have x1 := hr1.1.cell 11 _ (rr_at hr1.2.1 rfl)
  have f1 := hr1.1.free 11
  have hk2 : Keeps (Is g) w1 (w1.setCell ⟨g, 11, none⟩ (.slice A n c)) := (Keeps.refl (Is g) _).setCell (p := ⟨g, 11, none⟩) (.inl rfl) _
  have HK2 := Lib.hid (hk1.trans (Keeps.twog (gr := gr) hk2))
  have H2 := Lib.hid (hr1.field (i := 10) (by omega) (.slice A n c))
  have HQ2 := Lib.hid (OwR.keeps (hoq.lower (by omega : g + 1 ≤ w.heap.size)) hk2 (fun k hk e => by have e' : k = g := e; omega))
  have HD2 := Lib.hid (OwB.keeps HD.out HK2.out (fun k hk => two_g hgr hk))
  clear c0 hr1 hk1 hk2 hoq
  go_wp2
  go_end0
  exact ⟨rfl, (⟨kind, tag, code, msize, iounit, count, name, ⟨qdir, qver, qpath⟩, qs, data, ⟨sdir, sver, spath⟩, smode, ssize, sname⟩ : TellV), ov, wr, s', Lib.hid (by rw [hqs.out]; rfl), Lib.hid (by rw [hov.out]; rfl), Lib.hid (by rw [hwr.out]; rfl), Lib.hid (by rw [hs'.out]; rfl), ⟨A, n, c, Ad, nd, cd, H2.out, HQ2.out, HD2.out⟩, HK2.out⟩
set_option maxRecDepth 20000 in
set_option maxHeartbeats 4000000 in
theorem rPart_7 (g gr : Nat) (t : TellV) (over wrong : Bool) (s : S18) (w : World) (h : RrT w g gr t over wrong s) (hsl : s.l.length ≤ 1048576) :
    Calls Try.prog 47 #[.pointer (some ⟨g, 0, none⟩), .int .i64 7] w (PartR g gr (rpT 7 t s) (over || rpO 7 s) (wrong || rpW 7 s) (rpS 7 s) w) := by
  obtain ⟨kind, tag, code, msize, iounit, count, name, ⟨qdir, qver, qpath⟩, qids, data, ⟨sdir, sver, spath⟩, smode, ssize, sname⟩ := t
  have hgl := h.lt
  have hgr := h.gr
  obtain ⟨Aq, nq, cq, Ad, nd, cd, hw, hq, hd⟩ := h
  have HQ := Lib.hid hq
  have HD := Lib.hid hd
  have HW := Lib.hid hw
  have c0 := hw.c0
  clear hw hq hd
  go_enter Try.func47, Try.ntmps47
  go_wp2_with fail
  refine (rData_any gr s.l s.e 1024 _ HW.out.2.2.1 (by omega) (by omega) hsl).mono ?_
  rintro x w1 ⟨A, n, c, v, l1, e1, hv, hl1, he1, rfl, hod, hR1, hK1⟩
  have h1 := HW.out.next (s' := ⟨l1, e1⟩) hR1 hK1
  have x1 := h1.1.cell 12 _ (rr_at h1.2.1 rfl)
  have f1 := h1.1.free 12
  have hk2 : Keeps (Is g) w1 (w1.setCell ⟨g, 12, none⟩ (.slice A n c)) := (Keeps.refl (Is g) _).setCell (p := ⟨g, 12, none⟩) (.inl rfl) _
  have HK2 := Lib.hid ((Keeps.two (g := g) hK1).trans (Keeps.twog (gr := gr) hk2))
  have H2 := Lib.hid (h1.field (i := 11) (by omega) (.slice A n c))
  have HQ2 := Lib.hid (OwR.keeps HQ.out HK2.out (fun k hk => two_g hgr hk))
  have HD2 := Lib.hid (OwB.keeps (OwB.lower hod (by omega : g + 1 ≤ w.heap.size)) hk2 (fun k hk e => by have e' : k = g := e; omega))
  clear c0 hR1 hK1 h1 hk2 hod
  go_wp2
  go_end0
  exact ⟨rfl, (⟨kind, tag, code, msize, iounit, count, name, ⟨qdir, qver, qpath⟩, qids, v, ⟨sdir, sver, spath⟩, smode, ssize, sname⟩ : TellV), over, wrong, ⟨l1, e1⟩, Lib.hid (by rw [hv.out]; rfl), Lib.hid (by simp [rpO]), Lib.hid (by simp [rpW]), Lib.hid (by rw [hl1.out, he1.out]; rfl), ⟨Aq, nq, cq, A, n, c, H2.out, HQ2.out, HD2.out⟩, HK2.out⟩
set_option maxRecDepth 20000 in
set_option maxHeartbeats 4000000 in
theorem rPart_8 (g gr : Nat) (t : TellV) (over wrong : Bool) (s : S18) (w : World) (h : RrT w g gr t over wrong s) (hsl : s.l.length ≤ 1048576) :
    Calls Try.prog 47 #[.pointer (some ⟨g, 0, none⟩), .int .i64 8] w (PartR g gr (rpT 8 t s) (over || rpO 8 s) (wrong || rpW 8 s) (rpS 8 s) w) := by
  obtain ⟨kind, tag, code, msize, iounit, count, name, ⟨qdir, qver, qpath⟩, qids, data, ⟨sdir, sver, spath⟩, smode, ssize, sname⟩ := t
  have hgl := h.lt
  have hgr := h.gr
  obtain ⟨Aq, nq, cq, Ad, nd, cd, hw, hq, hd⟩ := h
  have HQ := Lib.hid hq
  have HD := Lib.hid hd
  have HW := Lib.hid hw
  have c0 := hw.c0
  clear hw hq hd
  have c0' := c0
  clear c0'
  go_enter Try.func47, Try.ntmps47
  go_wp2_with fail
  refine (rStat_any g gr _ over wrong s _ HW.out).mono ?_
  rintro e w1 ⟨⟨qd, qv, qp⟩, m, z, n, b, s', hqv, hm, hz, hn, hb, hs', rfl, hr1, hk1⟩
  have HQ1 := Lib.hid (OwR.keeps HQ.out hk1 (fun k hk => two_g hgr hk))
  have HD1 := Lib.hid (OwB.keeps HD.out hk1 (fun k hk => two_g hgr hk))
  have hB1 := hr1.1
  have hs := hB1.setRow (.pointer (some ⟨gr, 0, none⟩) :: (tellC (⟨kind, tag, code, msize, iounit, count, name, ⟨qdir, qver, qpath⟩, qids, data, ⟨qd, qv, qp⟩, m, z, n⟩ : TellV) Aq nq cq Ad nd cd ++ [Value.bool over, Value.bool b]))
  have hks := keeps_setRow w1 (g := g) (.pointer (some ⟨gr, 0, none⟩) :: (tellC (⟨kind, tag, code, msize, iounit, count, name, ⟨qdir, qver, qpath⟩, qids, data, ⟨qd, qv, qp⟩, m, z, n⟩ : TellV) Aq nq cq Ad nd cd ++ [Value.bool over, Value.bool b])).toArray
  have HK2 := Lib.hid (hk1.trans (Keeps.twog (gr := gr) hks))
  have H2 := Lib.hid (show RrS (w1.setRow g (.pointer (some ⟨gr, 0, none⟩) :: (tellC (⟨kind, tag, code, msize, iounit, count, name, ⟨qdir, qver, qpath⟩, qids, data, ⟨qd, qv, qp⟩, m, z, n⟩ : TellV) Aq nq cq Ad nd cd ++ [Value.bool over, Value.bool b])).toArray) g gr (tellC (⟨kind, tag, code, msize, iounit, count, name, ⟨qdir, qver, qpath⟩, qids, data, ⟨qd, qv, qp⟩, m, z, n⟩ : TellV) Aq nq cq Ad nd cd) over b s' from ⟨hs, rfl, hr1.2.2.1.keeps hks (fun k hk e => by have e' : k = g := e; omega), hgr⟩)
  have HQ2 := Lib.hid (OwR.keeps HQ1.out hks (fun k hk e => by have e' : k = g := e; omega))
  have HD2 := Lib.hid (OwB.keeps HD1.out hks (fun k hk e => by have e' : k = g := e; omega))
  clear c0 hr1 hk1 hs hks
  go_wp2_with (refine wpList_storeMid8 rfl (.tmp 93) (.tmp 91) rfl rfl [.bool qd, .int .i64 qv, .int .i64 qp, .int .i64 m, .int .i64 z, .string (st n)] (.pointer (some ⟨gr, 0, none⟩) :: (tellC (⟨kind, tag, code, msize, iounit, count, name, ⟨qdir, qver, qpath⟩, qids, data, ⟨qd, qv, qp⟩, m, z, n⟩ : TellV) Aq nq cq Ad nd cd ++ [Value.bool over, Value.bool b])) rfl rfl (by kernel_rfl) hB1 (by simp [tellC]) (by simp [Value.oneCell']) rfl ?_)
  go_end0
  exact ⟨rfl, (⟨kind, tag, code, msize, iounit, count, name, ⟨qdir, qver, qpath⟩, qids, data, ⟨qd, qv, qp⟩, m, z, n⟩ : TellV), over, b, s', Lib.hid (by rw [hqv.out, hm.out, hz.out, hn.out]; rfl), Lib.hid (by simp [rpO]), Lib.hid (by rw [hb.out]; rfl), Lib.hid (by rw [hs'.out]; rfl), ⟨Aq, nq, cq, Ad, nd, cd, H2.out, HQ2.out, HD2.out⟩, HK2.out⟩
theorem rPart_any (k : Int) (hk : 0 ≤ k ∧ k ≤ 8) (g gr : Nat) (t : TellV) (over wrong : Bool) (s : S18) (w : World) (h : RrT w g gr t over wrong s) (hsl : s.l.length ≤ 1048576) :
    Calls Try.prog 47 #[.pointer (some ⟨g, 0, none⟩), .int .i64 k] w (PartR g gr (rpT k t s) (over || rpO k s) (wrong || rpW k s) (rpS k s) w) := by
  obtain ⟨h0, h8⟩ := hk
  rcases (by omega : k = 0 ∨ k = 1 ∨ k = 2 ∨ k = 3 ∨ k = 4 ∨ k = 5 ∨ k = 6 ∨ k = 7 ∨ k = 8) with rfl | rfl | rfl | rfl | rfl | rfl | rfl | rfl | rfl
  · exact rPart_0 g gr t over wrong s w h hsl
  · exact rPart_1 g gr t over wrong s w h hsl
  · exact rPart_2 g gr t over wrong s w h hsl
  · exact rPart_3 g gr t over wrong s w h hsl
  · exact rPart_4 g gr t over wrong s w h hsl
  · exact rPart_5 g gr t over wrong s w h hsl
  · exact rPart_6 g gr t over wrong s w h hsl
  · exact rPart_7 g gr t over wrong s w h hsl
  · exact rPart_8 g gr t over wrong s w h hsl
end Go.Proofs.Ytoplkglnjgllnaa
