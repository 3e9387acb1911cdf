/-
  The reference's reader of replies: a long number, a qid.
  The reference's get: a field, read into a reply.
-/
import Derived.Test.YtoplkglnjgllnaaTrV
import Derived.Test.YtoplkglnjgllnaaTrB
namespace Go.Proofs.Ytoplkglnjgllnaa
open Go.RowKit
set_option linter.unusedVariables false
set_option linter.unusedSimpArgs false

/-- A long number; below 0: it is too great. -/
def lgV (n : Nat) : Int := if 4611686018427387904 < n then -1 else (n : Int)
def RLongPost (B g N : Nat) (s : S18) (w : World) (x : Ending) (w' : World) : Prop :=
  ∃ (v : Int) (s' : S18), Hid (v = lgV (vl 8 s)) ∧ Hid (s' = tk 8 s) ∧ x = .returned (.int .i64 v) ∧ RRd w' B g N s'.l s'.e ∧ Keeps (Is g) w w'
set_option maxHeartbeats 4000000 in
theorem refLong_any (B g N : Nat) (s : S18) (w : World) (h : RRd w B g N s.l s.e) :
    Calls Try.prog 75 #[.pointer (some ⟨g, 0, none⟩)] w (RLongPost B g N s w) := by
  go_enter Try.func75, Try.ntmps75
  go_wp2_with fail
  refine (refNumber_any B g N s.l s.e 8 _ h (by omega)).mono ?_
  rintro x w1 ⟨v, l2, e2, hv, hl2, he2, rfl, hR, hK⟩
  have hq : vl 8 s = v := by unfold vl; rw [hv.out]
  have hs : tk 8 s = ⟨l2, e2⟩ := by unfold tk; rw [hl2.out, he2.out]
  have b3 : v < 18446744073709551616 := by have := vl_lt 8 s; rw [hq] at this; simpa using this
  have HQ := Lib.hid hq
  have HS := Lib.hid hs
  clear hq hs hv hl2 he2
  by_cases hlt : 4611686018427387904 < v
  · have h1 : (4611686018427387904 : Int) < v := by omega
    go_wp2
    go_ret
    exact ⟨-1, ⟨l2, e2⟩, Lib.hid (by rw [HQ.out]; unfold lgV; rw [if_pos hlt]), Lib.hid HS.out.symm, rfl, hR, hK⟩
  · have h1 : ¬ (4611686018427387904 : Int) < v := by omega
    have hwr : IntKind.i64.wrap (v : Int) = v := IntWalk.i64_in _ (by omega)
    go_wp2
    go_ret
    exact ⟨v, ⟨l2, e2⟩, Lib.hid (by rw [HQ.out]; unfold lgV; rw [if_neg hlt]), Lib.hid HS.out.symm, rfl, hR, hK⟩
/-- A qid; its path is below 0, if it is of no kind. -/
def qdV (s : S18) : QidV := ⟨decide (vl 1 s = 128), (vl 4 (tk 1 s) : Int), if vl 1 s = 0 ∨ vl 1 s = 128 then lgV (vl 8 (tk 4 (tk 1 s))) else -1⟩
def RQdPost (B g N : Nat) (s : S18) (w : World) (x : Ending) (w' : World) : Prop :=
  ∃ (q : QidV) (s' : S18), Hid (q = qdV s) ∧ Hid (s' = qidS s) ∧ x = .returned (.agg #[.bool q.dir, .int .i64 q.ver, .int .i64 q.path]) ∧ RRd w' B g N s'.l s'.e ∧ Keeps (Is g) w w'
set_option maxRecDepth 20000 in
set_option maxHeartbeats 8000000 in
theorem refQid_any (B g N : Nat) (s : S18) (w : World) (h : RRd w B g N s.l s.e) :
    Calls Try.prog 73 #[.pointer (some ⟨g, 0, none⟩)] w (RQdPost B g N s w) := by
  have hZ0 := Blk.new w 23 [.bool false, .int .i64 0, .int .i64 0]
  have hgl := h.lt
  obtain ⟨W, hW⟩ : ∃ W, W = w.alloc (.cells #[.bool false, .int .i64 0, .int .i64 0] 23) := ⟨_, rfl⟩
  have hW' : W = w.alloc (.cells [.bool false, .int .i64 0, .int .i64 0].toArray 23) := hW
  have h0 : RRd W B g N s.l s.e := by rw [hW]; exact h.up ((Below.refl _ _).alloc (Nat.le_refl _) _)
  have hk0 : Keeps (Is g) w W := by rw [hW]; exact (Keeps.refl _ _).alloc _
  rw [← hW'] at hZ0
  obtain ⟨Z, hZ⟩ : ∃ Z, Z = w.heap.size := ⟨_, rfl⟩
  rw [← hZ] at hZ0
  have hZg : g < Z := by omega
  have nZ : ¬ Is g Z := fun e => by have e' : Z = g := e; omega
  have H0 := Lib.hid h0
  have HZ0 := Lib.hid hZ0
  have HK0 := Lib.hid hk0
  have HZe := Lib.hid hZ
  clear h h0 hZ0 hk0 hW'
  go_enter Try.func73, Try.ntmps73
  go_upto_region 1 with fail
  rw [← hW, ← hZ]
  clear hW hZ
  go_wp2_with fail
  refine (refNumber_any B g N s.l s.e 1 _ H0.out (by omega)).mono ?_
  rintro x w1 ⟨v1, l1, e1, hv1, hl1, he1, rfl, hR1, hK1⟩
  have hs1 : tk 1 s = ⟨l1, e1⟩ := by unfold tk; rw [hl1.out, he1.out]
  have hq1 : vl 1 s = v1 := by unfold vl; rw [hv1.out]
  have b1 : v1 < 256 := by have := vl_lt 1 s; rw [hq1] at this; simpa using this
  obtain ⟨d, hd⟩ : ∃ d, ((v1 : Int) == 128) = d := ⟨_, rfl⟩
  have HZ1 := Lib.hid (HZ0.out.keeps hK1 nZ)
  have HK1 := Lib.hid (HK0.out.trans hK1)
  have HS1 := Lib.hid hs1
  have HQ1 := Lib.hid hq1
  have HD := Lib.hid (show decide (v1 = 128) = d by rw [← hd]; by_cases e : v1 = 128 <;> simp [e] <;> omega)
  have hXZ := Blk.new w1 23 [.bool false, .int .i64 0, .int .i64 0]
  have hXa : Blk (w1.alloc (.cells #[.bool false, .int .i64 0, .int .i64 0] 23)) w1.heap.size 23 [.bool false, .int .i64 0, .int .i64 0] := hXZ
  obtain ⟨gX, hgX⟩ : ∃ x, x = w1.heap.size := ⟨_, rfl⟩
  have hZX : Z < gX := by have := HZ1.out.lt; omega
  have hKs := keeps_setRow (w1.alloc (.cells #[.bool false, .int .i64 0, .int .i64 0] 23)) (g := gX) #[.bool d, .int .i64 0, .int .i64 0]
  have hbk : Below w1.heap.size w1 ((w1.alloc (.cells #[.bool false, .int .i64 0, .int .i64 0] 23)).setRow gX #[.bool d, .int .i64 0, .int .i64 0]) := ((Below.refl _ _).alloc (Nat.le_refl _) _).trans (hKs.is (by omega) (by rw [hgX]; simp))
  have hX2 : Blk ((w1.alloc (.cells #[.bool false, .int .i64 0, .int .i64 0] 23)).setRow gX #[.bool d, .int .i64 0, .int .i64 0]) gX 23 [.bool d, .int .i64 0, .int .i64 0] := by rw [hgX]; exact hXa.setRow [.bool d, .int .i64 0, .int .i64 0]
  have H2 := Lib.hid (hR1.up hbk)
  have HZ2 := Lib.hid (HZ1.out.up hbk)
  have HK2 := Lib.hid (HK1.out.trans (Keeps.of_below hbk))
  have HX2 := Lib.hid hX2
  have HGX := Lib.hid hgX
  clear hR1 hK1 hXZ hKs hbk hX2 hgX hs1 hq1 hv1 hl1 he1
  go_upto_region 3 with (refine wpList_storeBlk rfl (.tmp 4) (.tmp 9) rfl rfl [.bool d, .int .i64 0, .int .i64 0] rfl rfl (by kernel_rfl) hXa rfl (by simp [Value.oneCell']) ?_)
  rw [← HGX.out]
  generalize (w1.alloc (.cells #[.bool false, .int .i64 0, .int .i64 0] 23)).setRow gX #[.bool d, .int .i64 0, .int .i64 0] = w2 at H2 HZ2 HK2 HX2 ⊢
  clear hXa
  have hgX' : g < gX := by omega
  have nX : ¬ Is g gX := fun e => by have e' : gX = g := e; omega
  go_wp2_with fail
  refine (refNumber_any B g N l1 e1 4 _ H2.out (by omega)).mono ?_
  rintro x w3 ⟨v2, l2, e2, hv2, hl2, he2, rfl, hR3, hK3⟩
  have hs2 : tk 4 (tk 1 s) = ⟨l2, e2⟩ := by rw [HS1.out]; unfold tk; rw [hl2.out, he2.out]
  have hq2 : vl 4 (tk 1 s) = v2 := by rw [HS1.out]; unfold vl; rw [hv2.out]
  have b2 : v2 < 4294967296 := by have := vl_lt 4 (tk 1 s); rw [hq2] at this; simpa using this
  have hwr : IntKind.i64.wrap (v2 : Int) = v2 := IntWalk.i64_in _ (by omega)
  have hX3 := HX2.out.keeps hK3 nX
  have x3 := hX3.cell 1 _ rfl
  have f3 := hX3.free 1
  have hX4 := hX3.set 1 (.int .i64 v2)
  have hk4 : Keeps (Is gX) w3 (w3.setCell ⟨gX, 1, none⟩ (.int .i64 v2)) := (Keeps.refl (Is gX) _).setCell (p := ⟨gX, 1, none⟩) (.inl rfl) _
  have H4 := Lib.hid (hR3.below (B' := gX) (hk4.under (B := gX) (by have := hX3.lt; omega) (fun k hk e => by have e' : k = gX := e; omega)) (by omega))
  have HZ4 := Lib.hid ((HZ2.out.keeps hK3 nZ).keeps hk4 (fun e => by have e' : Z = gX := e; omega))
  have HK4 := Lib.hid ((HK2.out.trans hK3).thenB (hk4.under (B := w.heap.size) (by have := hX3.lt; have := HZe.out; omega) (fun k hk e => by have e' : k = gX := e; have := HZe.out; omega)))
  have HX4 := Lib.hid hX4
  have HS2 := Lib.hid hs2
  have HQ2 := Lib.hid hq2
  clear hR3 hK3 hX3 hX4 hk4 hs2 hq2 hv2 hl2 he2
  go_upto_region 4 with fail
  generalize w3.setCell ⟨gX, 1, none⟩ (.int .i64 v2) = w4 at H4 HZ4 HK4 HX4 ⊢
  clear x3 f3
  go_wp2_with fail
  refine (refLong_any B g N ⟨l2, e2⟩ _ H4.out).mono ?_
  rintro x w5 ⟨p, s3, hp, hs3, rfl, hR5, hK5⟩
  have hX5 := HX4.out.keeps hK5 nX
  have x4 := hX5.cell 2 _ rfl
  have f4 := hX5.free 2
  have hX6 := hX5.set 2 (.int .i64 p)
  have hk6 : Keeps (Is gX) w5 (w5.setCell ⟨gX, 2, none⟩ (.int .i64 p)) := (Keeps.refl (Is gX) _).setCell (p := ⟨gX, 2, none⟩) (.inl rfl) _
  have H6 := Lib.hid (hR5.below (B' := gX) (hk6.under (B := gX) (by have := hX5.lt; omega) (fun k hk e => by have e' : k = gX := e; omega)) (by omega))
  have HZ6 := Lib.hid ((HZ4.out.keeps hK5 nZ).keeps hk6 (fun e => by have e' : Z = gX := e; omega))
  have HK6 := Lib.hid ((HK4.out.trans hK5).thenB (hk6.under (B := w.heap.size) (by have := hX5.lt; have := HZe.out; omega) (fun k hk e => by have e' : k = gX := e; have := HZe.out; omega)))
  have HX6 := Lib.hid hX6
  have HS3 := Lib.hid (show qidS s = s3 by unfold qidS; rw [HS2.out, hs3.out])
  have HQ3 := Lib.hid (show lgV (vl 8 (tk 4 (tk 1 s))) = p by rw [HS2.out, hp.out])
  clear hR5 hK5 hX5 hX6 hk6 hs3 hp
  go_upto_region 5 with fail
  generalize w5.setCell ⟨gX, 2, none⟩ (.int .i64 p) = w6 at H6 HZ6 HK6 HX6 ⊢
  clear x4 f4
  by_cases hz : v1 = 0 ∨ v1 = 128
  · have hXf := HX6.out
    have hF := HZ6.out.setRow [.bool d, .int .i64 v2, .int .i64 p]
    have hks := keeps_setRow w6 (g := Z) #[.bool d, .int .i64 v2, .int .i64 p]
    have HR := Lib.hid (H6.out.below (B' := Z) (hks.under (B := Z) (by have := HZ6.out.lt; omega) (fun k hk e => by have e' : k = Z := e; omega)) hZg)
    have HK := Lib.hid (HK6.out.thenB ((hks.under (B := w.heap.size) (by have := HZ6.out.lt; have := HZe.out; omega) (fun k hk e => by have e' : k = Z := e; have := HZe.out; omega))))
    have hq : (⟨d, (v2 : Int), p⟩ : QidV) = qdV s := by
      unfold qdV; rw [HQ1.out, HD.out, HQ2.out, HQ3.out, if_pos hz]
    rcases hz with hz | hz
    all_goals
      subst hz
      go_wp2_with first
        | (refine wpList_loadBlk rfl (.tmp 4) rfl rfl (by kernel_rfl) qidT_agg hXf ?_; simp only [Act.put, List.setIfInBounds_toArray, List.set_cons_succ, List.set_cons_zero])
        | (refine wpList_storeBlk rfl (.tmp 2) (.tmp 24) rfl rfl [.bool d, .int .i64 v2, .int .i64 p] rfl rfl (by kernel_rfl) HZ6.out rfl (by simp [Value.oneCell']) ?_)
      exact bodyPost_ret (v := .agg #[.bool d, .int .i64 v2, .int .i64 p]) (results_cellBlk Try.results73 rfl hF (by kernel_rfl) qidT_agg) rfl ⟨⟨d, v2, p⟩, s3, Lib.hid hq, Lib.hid HS3.out.symm, rfl, HR.out, HK.out⟩
  · have z0 : ((v1 : Int) != 0) = true := by simp; omega
    have z8 : ((v1 : Int) != 128) = true := by simp; omega
    have x4 := HX6.out.cell 2 _ rfl
    have f4 := HX6.out.free 2
    have hX8 := HX6.out.set 2 (.int .i64 (-1))
    have hk8 : Keeps (Is gX) w6 (w6.setCell ⟨gX, 2, none⟩ (.int .i64 (-1))) := (Keeps.refl (Is gX) _).setCell (p := ⟨gX, 2, none⟩) (.inl rfl) _
    have H8 := Lib.hid (H6.out.below (B' := gX) (hk8.under (B := gX) (by have := HX6.out.lt; omega) (fun k hk e => by have e' : k = gX := e; omega)) (by omega))
    have HZ8 := Lib.hid (HZ6.out.keeps hk8 (fun e => by have e' : Z = gX := e; omega))
    have HK8 := Lib.hid (HK6.out.thenB (hk8.under (B := w.heap.size) (by have := HX6.out.lt; have := HZe.out; omega) (fun k hk e => by have e' : k = gX := e; have := HZe.out; omega)))
    have HX8 := Lib.hid hX8
    clear hX8 hk8
    go_upto_region 7 with fail
    generalize w6.setCell ⟨gX, 2, none⟩ (.int .i64 (-1)) = w8 at H8 HZ8 HK8 HX8 ⊢
    clear x4 f4
    have hXf := HX8.out
    have hF := HZ8.out.setRow [.bool d, .int .i64 v2, .int .i64 (-1)]
    have hks := keeps_setRow w8 (g := Z) #[.bool d, .int .i64 v2, .int .i64 (-1)]
    have HR := Lib.hid (H8.out.below (B' := Z) (hks.under (B := Z) (by have := HZ8.out.lt; omega) (fun k hk e => by have e' : k = Z := e; omega)) hZg)
    have HK := Lib.hid (HK8.out.thenB ((hks.under (B := w.heap.size) (by have := HZ8.out.lt; have := HZe.out; omega) (fun k hk e => by have e' : k = Z := e; have := HZe.out; omega))))
    have hq : (⟨d, (v2 : Int), -1⟩ : QidV) = qdV s := by
      unfold qdV; rw [HQ1.out, HD.out, HQ2.out, if_neg hz]
    go_wp2_with first
      | (refine wpList_loadBlk rfl (.tmp 4) rfl rfl (by kernel_rfl) qidT_agg hXf ?_; simp only [Act.put, List.setIfInBounds_toArray, List.set_cons_succ, List.set_cons_zero])
      | (refine wpList_storeBlk rfl (.tmp 2) (.tmp 24) rfl rfl [.bool d, .int .i64 v2, .int .i64 (-1)] rfl rfl (by kernel_rfl) HZ8.out rfl (by simp [Value.oneCell']) ?_)
    exact bodyPost_ret (v := .agg #[.bool d, .int .i64 v2, .int .i64 (-1)]) (results_cellBlk Try.results73 rfl hF (by kernel_rfl) qidT_agg) rfl ⟨⟨d, v2, -1⟩, s3, Lib.hid hq, Lib.hid HS3.out.symm, rfl, HR.out, HK.out⟩

def gqV : Nat → S18 → List QidV
  | 0, _ => []
  | n + 1, s => if s.e = 0 then qdV s :: gqV n (qidS s) else []
def gqS : Nat → S18 → S18
  | 0, s => s
  | n + 1, s => if s.e = 0 then gqS n (qidS s) else s
theorem gqV_bad (n : Nat) (s : S18) (h : s.e ≠ 0) : gqV n s = [] := by cases n with | zero => rfl | succ n => exact if_neg h
theorem gqS_bad (n : Nat) (s : S18) (h : s.e ≠ 0) : gqS n s = s := by cases n with | zero => rfl | succ n => exact if_neg h
/-- The reply into which a field is read; what is left. -/
def gtT (f : Int) (t : TellV) (s : S18) : TellV :=
  if f = 122 then { t with msize := (vl 4 s : Int) } else if f = 110 then { t with name := txB s.l s.e } else if f = 113 then { t with qid := qdV s } else if f = 101 then { t with code := (vl 2 s : Int) } else if f = 105 then { t with iounit := (vl 4 s : Int) } else if f = 100 then { t with data := dtB s.l s.e 1024 } else if f = 99 then { t with count := (vl 4 s : Int) } else if f = 115 then { t with sqid := qdV s, smode := statM s, ssize := lgV (vl 8 (tk 4 (qidS s))), sname := statN s } else if f = 108 then (if 8 < vl 2 s then t else { t with qids := gqV (vl 2 s) (tk 2 s) }) else t
def gtS (f : Int) (s : S18) : S18 :=
  if f = 122 then tk 4 s else if f = 110 then ⟨txL s.l s.e, txE s.l s.e⟩ else if f = 113 then qidS s else if f = 101 then tk 2 s else if f = 105 then tk 4 s else if f = 100 then ⟨dtL s.l s.e 1024, dtE s.l s.e 1024⟩ else if f = 99 then tk 4 s else if f = 115 then statS s else if f = 108 then (if 8 < vl 2 s then ⟨[], 4⟩ else gqS (vl 2 s) (tk 2 s)) else s
theorem RRd.c2 {w : World} {B g N : Nat} {l : List UInt8} {e : Int} (h : RRd w B g N l e) : w.cell? ⟨g, 2, none⟩ = some (.int .i64 e) := by
  obtain ⟨A, n, c, I, b, h1, _⟩ := h; exact h1.cell 2 _ rfl
theorem RRd.f2 {w : World} {B g N : Nat} {l : List UInt8} {e : Int} (h : RRd w B g N l e) : ∃ t cs, Blk w g t cs := by
  obtain ⟨A, n, c, I, b, h1, _⟩ := h; exact ⟨_, _, h1⟩
theorem RRd.fail {w : World} {B g N : Nat} {l : List UInt8} {e : Int} (h : RRd w B g N l e) : RRd (w.setCell ⟨g, 2, none⟩ (.int .i64 4)) B g N [] 4 := by
  obtain ⟨A, n, c, I, b, h1, h2, h3, h4, h5, h6, _⟩ := h
  have hk := (Keeps.refl (Is g) w).setCell (p := ⟨g, 2, none⟩) (.inl rfl) (.int .i64 4)
  exact ⟨A, n, c, I, b, h1.set 2 _, h2.below (hk.is h6.1 (Nat.le_of_lt h1.lt)), h3, h4, h5, h6, fun h => absurd h (by decide), fun _ => rfl⟩
def zero18 : List Value := [.int .i64 0, .int .i64 0, .int .i64 0, .int .i64 0, .int .i64 0, .int .i64 0, .string ByteArray.empty, .bool false, .int .i64 0, .int .i64 0, .slice none 0 0, .slice none 0 0, .bool false, .int .i64 0, .int .i64 0, .int .i64 0, .int .i64 0, .string ByteArray.empty]
/-- While get runs: the reader in g, the reply in gX, the result's cell Z. -/
structure GtW (w wi : World) (B g N gX Z : Nat) (cs : List Value) (l : List UInt8) (e : Int) : Prop where
  r : RRd wi B g N l e
  x : Blk wi gX 29 cs
  z : Blk wi Z 29 zero18
  k : Keeps (Is g) w wi
  o : w.heap.size ≤ gX ∧ g < w.heap.size ∧ gX < Z ∧ B ≤ g
section
variable {w wi w1 : World} {B g N gX Z : Nat} {cs : List Value} {l l' : List UInt8} {e e' : Int}
theorem GtW.call (h : GtW w wi B g N gX Z cs l e) (hR : RRd w1 B g N l' e') (hK : Keeps (Is g) wi w1) : GtW w w1 B g N gX Z cs l' e' := by
  have o := h.o
  exact ⟨hR, h.x.keeps hK (fun e => by have e' : gX = g := e; omega), h.z.keeps hK (fun e => by have e' : Z = g := e; omega), h.k.trans hK, o⟩
theorem GtW.under (h : GtW w wi B g N gX Z cs l e) {cs' : List Value} (k : Keeps (Is gX) wi w1) (hx : Blk w1 gX 29 cs') : GtW w w1 B g N gX Z cs' l e := by
  have o := h.o
  have hl := h.x.lt
  exact ⟨h.r.below (B' := gX) (k.is (Nat.le_refl _) (by omega)) (by omega), hx, h.z.keeps k (fun e => by have e' : Z = gX := e; omega), h.k.thenB (k.is (by omega) (by omega)), o⟩
theorem GtW.set (h : GtW w wi B g N gX Z cs l e) (i : Nat) (v : Value) : GtW w (wi.setCell ⟨gX, i, none⟩ v) B g N gX Z (cs.set i v) l e :=
  h.under ((Keeps.refl (Is gX) _).setCell (p := ⟨gX, i, none⟩) (.inl rfl) _) (h.x.set i v)
theorem GtW.row (h : GtW w wi B g N gX Z cs l e) (cs' : List Value) : GtW w (wi.setRow gX cs'.toArray) B g N gX Z cs' l e :=
  h.under (keeps_setRow _ _) (h.x.setRow cs')
theorem GtW.up (h : GtW w wi B g N gX Z cs l e) (k : Below (Z + 1) wi w1) : GtW w w1 B g N gX Z cs l e := by
  have o := h.o
  exact ⟨h.r.below k (by omega), h.x.below k (by omega), h.z.below k (by omega), h.k.thenB (k.mono (by omega)), o⟩
theorem GtW.drew (h : GtW w wi B g N gX Z cs l e) : GtW w wi.drew B g N gX Z cs l e := ⟨h.r.drew, h.x.drew, h.z.drew, h.k.drew, h.o⟩
theorem GtW.fail (h : GtW w wi B g N gX Z cs l e) : GtW w (wi.setCell ⟨g, 2, none⟩ (.int .i64 4)) B g N gX Z cs [] 4 :=
  h.call (RRd.fail h.r) ((Keeps.refl (Is g) _).setCell (p := ⟨g, 2, none⟩) (.inl rfl) _)
end
/-- A reply's slices: its qids are its own from block b on, its data is only read. -/
structure GtOk (w : World) (B b : Nat) (t : TellV) (Aq : Option Addr) (nq cq : Nat) (Ad : Option Addr) (nd : Nat) : Prop where
  q : OwR w b 23 3 Aq nq cq (t.qids.map qidC)
  d : RdB w B Ad nd t.data
def GtPost (B g N b : Nat) (f : Int) (t : TellV) (s : S18) (Aq0 : Option Addr) (nq0 cq0 : Nat) (w : World) (x : Ending) (w' : World) : Prop :=
  ∃ (t' : TellV) (s' : S18) (Aq : Option Addr) (nq cq : Nat) (Ad : Option Addr) (nd cd : Nat), Hid (t' = gtT f t s) ∧ Hid (s' = gtS f s) ∧ x = .returned (.agg (tellC t' Aq nq cq Ad nd cd).toArray) ∧ GtOk w' B b t' Aq nq cq Ad nd ∧ RRd w' B g N s'.l s'.e ∧ Keeps (Is g) w w' ∧ Hid (f = 108 ∨ Aq = Aq0 ∧ nq = nq0 ∧ cq = cq0)
set_option maxRecDepth 20000 in
set_option maxHeartbeats 8000000 in
theorem refGet_122 (w : World) (B g N b : Nat) (hgb : g < b) (hbw : b ≤ w.heap.size) (t : TellV) (s : S18) (Aq : Option Addr) (nq cq : Nat) (Ad : Option Addr) (nd cd : Nat) (h : RRd w B g N s.l s.e) (ho : GtOk w B b t Aq nq cq Ad nd) :
    Calls Try.prog 50 #[.pointer (some ⟨g, 0, none⟩), .agg (tellC t Aq nq cq Ad nd cd).toArray, .int .u8 122] w (GtPost B g N b 122 t s Aq nq cq w) := by
  have hgl := h.lt
  have hBg := h.low
  obtain ⟨W, hW⟩ : ∃ W, W = (w.alloc (.cells (tellC t Aq nq cq Ad nd cd).toArray 29)).alloc (.cells zero18.toArray 29) := ⟨_, rfl⟩
  have hkW : Keeps (Is g) w W := by rw [hW]; exact ((Keeps.refl _ _).alloc _).alloc _
  have hbW : Below w.heap.size w W := by rw [hW]; exact ((Below.refl _ _).alloc (Nat.le_refl _) _).alloc (by simp) _
  obtain ⟨gX, hgX⟩ : ∃ x, x = w.heap.size := ⟨_, rfl⟩
  obtain ⟨Z, hZ'⟩ : ∃ x, x = (w.alloc (.cells (tellC t Aq nq cq Ad nd cd).toArray 29)).heap.size := ⟨_, rfl⟩
  have hZ : Z = w.heap.size + 1 := by rw [hZ']; simp
  have hX0 : Blk W gX 29 (tellC t Aq nq cq Ad nd cd) := by rw [hW, hgX]; exact (Blk.new w 29 (tellC t Aq nq cq Ad nd cd)).up ((Below.refl _ _).alloc (Nat.le_refl _) _)
  have hZ0 : Blk W Z 29 zero18 := by rw [hW, hZ']; exact Blk.new (w.alloc (.cells (tellC t Aq nq cq Ad nd cd).toArray 29)) 29 zero18
  have H0 := Lib.hid (show GtW w W B g N gX Z (tellC t Aq nq cq Ad nd cd) s.l s.e from ⟨h.up hbW, hX0, hZ0, hkW, by omega⟩)
  have HO := Lib.hid ho
  clear h ho hX0 hZ0 hkW hbW
  go_enter Try.func50, Try.ntmps50
  go_upto_region 1 with fail
  rw [show (w.alloc (.cells (tellC t Aq nq cq Ad nd cd).toArray 29)).alloc (.cells #[.int .i64 0, .int .i64 0, .int .i64 0, .int .i64 0, .int .i64 0, .int .i64 0, .string ⟨#[]⟩, .bool false, .int .i64 0, .int .i64 0, .slice none 0 0, .slice none 0 0, .bool false, .int .i64 0, .int .i64 0, .int .i64 0, .int .i64 0, .string ⟨#[]⟩] 29) = W from hW.symm, ← hZ, ← hgX]
  clear hW hgX hZ hZ'
  go_wp2_with fail
  refine (refNumber_any B g N s.l s.e 4 _ H0.out.r (by omega)).mono ?_
  rintro x w1 ⟨v, l1, e1, hv, hl1, he1, rfl, hR1, hK1⟩
  have hs1 : tk 4 s = ⟨l1, e1⟩ := by unfold tk; rw [hl1.out, he1.out]
  have hq1 : vl 4 s = v := by unfold vl; rw [hv.out]
  have b1 : v < 4294967296 := by have := vl_lt 4 s; rw [hq1] at this; have e : (256 : Nat) ^ 4 ≤ 4294967296 := by decide
                                 omega
  have hwr : IntKind.i64.wrap (v : Int) = v := IntWalk.i64_in _ (by omega)
  have h1 := H0.out.call hR1 hK1
  have x1 := h1.x.cell 3 _ rfl
  have f1 := h1.x.free 3
  have H8 := Lib.hid (show GtW w (w1.setCell ⟨gX, 3, none⟩ (.int .i64 v)) B g N gX Z (tellC ({ t with msize := (v : Int) } : TellV) Aq nq cq Ad nd cd) l1 e1 from h1.set 3 (.int .i64 v))
  have HD8 := Lib.hid (HO.out.d.below (H8.out.k.is hBg (by omega)))
  have HS1 := Lib.hid hs1
  have HQ1 := Lib.hid hq1
  clear hR1 hK1 h1 hs1 hq1 hv hl1 he1
  go_upto_region 29 with fail
  generalize w1.setCell ⟨gX, 3, none⟩ (.int .i64 v) = w8 at H8 HD8 ⊢
  clear x1 f1
  have hXf := H8.out.x
  have hF := H8.out.z.setRow (tellC ({ t with msize := (v : Int) } : TellV) Aq nq cq Ad nd cd)
  have hks := keeps_setRow w8 (g := Z) (tellC ({ t with msize := (v : Int) } : TellV) Aq nq cq Ad nd cd).toArray
  have hkz := hks.is (B := g + 1) (by have := H8.out.o; omega) (Nat.le_of_lt H8.out.z.lt)
  have HR := Lib.hid (H8.out.r.below (B' := g + 1) hkz (by omega))
  have HK := Lib.hid (H8.out.k.thenB (hks.is (B := w.heap.size) (by have := H8.out.o; omega) (Nat.le_of_lt H8.out.z.lt)))
  have HQ9 := Lib.hid (OwR.keeps HO.out.q HK.out (fun k hk e => by have e' : k = g := e; omega))
  have HD9 := Lib.hid (HD8.out.below (hkz.mono (by omega)))
  have HZ9 := Lib.hid H8.out.z
  clear hks hkz
  go_wp2_with first
    | (refine wpList_loadBlk rfl (.tmp 4) rfl rfl (by kernel_rfl) tellT_agg hXf ?_; simp only [Act.put, List.setIfInBounds_toArray, List.set_cons_succ, List.set_cons_zero])
    | (refine wpList_storeBlk rfl (.tmp 6) (.tmp 97) rfl rfl (tellC ({ t with msize := (v : Int) } : TellV) Aq nq cq Ad nd cd) rfl rfl (by kernel_rfl) HZ9.out rfl (by simp [tellC, Value.oneCell']) ?_)
  exact bodyPost_ret (v := .agg (tellC ({ t with msize := (v : Int) } : TellV) Aq nq cq Ad nd cd).toArray) (results_cellBlk Try.results50 rfl hF (by kernel_rfl) tellT_agg) rfl ⟨({ t with msize := (v : Int) } : TellV), ⟨l1, e1⟩, _, _, _, _, _, _, Lib.hid (by rw [← HQ1.out]; rfl), Lib.hid (by rw [← HS1.out]; rfl), rfl, ⟨HQ9.out, HD9.out⟩, HR.out, HK.out, Lib.hid (by first | exact .inr ⟨rfl, rfl, rfl⟩ | exact .inl rfl)⟩
set_option maxRecDepth 20000 in
set_option maxHeartbeats 8000000 in
theorem refGet_101 (w : World) (B g N b : Nat) (hgb : g < b) (hbw : b ≤ w.heap.size) (t : TellV) (s : S18) (Aq : Option Addr) (nq cq : Nat) (Ad : Option Addr) (nd cd : Nat) (h : RRd w B g N s.l s.e) (ho : GtOk w B b t Aq nq cq Ad nd) :
    Calls Try.prog 50 #[.pointer (some ⟨g, 0, none⟩), .agg (tellC t Aq nq cq Ad nd cd).toArray, .int .u8 101] w (GtPost B g N b 101 t s Aq nq cq w) := by
  have hgl := h.lt
  have hBg := h.low
  obtain ⟨W, hW⟩ : ∃ W, W = (w.alloc (.cells (tellC t Aq nq cq Ad nd cd).toArray 29)).alloc (.cells zero18.toArray 29) := ⟨_, rfl⟩
  have hkW : Keeps (Is g) w W := by rw [hW]; exact ((Keeps.refl _ _).alloc _).alloc _
  have hbW : Below w.heap.size w W := by rw [hW]; exact ((Below.refl _ _).alloc (Nat.le_refl _) _).alloc (by simp) _
  obtain ⟨gX, hgX⟩ : ∃ x, x = w.heap.size := ⟨_, rfl⟩
  obtain ⟨Z, hZ'⟩ : ∃ x, x = (w.alloc (.cells (tellC t Aq nq cq Ad nd cd).toArray 29)).heap.size := ⟨_, rfl⟩
  have hZ : Z = w.heap.size + 1 := by rw [hZ']; simp
  have hX0 : Blk W gX 29 (tellC t Aq nq cq Ad nd cd) := by rw [hW, hgX]; exact (Blk.new w 29 (tellC t Aq nq cq Ad nd cd)).up ((Below.refl _ _).alloc (Nat.le_refl _) _)
  have hZ0 : Blk W Z 29 zero18 := by rw [hW, hZ']; exact Blk.new (w.alloc (.cells (tellC t Aq nq cq Ad nd cd).toArray 29)) 29 zero18
  have H0 := Lib.hid (show GtW w W B g N gX Z (tellC t Aq nq cq Ad nd cd) s.l s.e from ⟨h.up hbW, hX0, hZ0, hkW, by omega⟩)
  have HO := Lib.hid ho
  clear h ho hX0 hZ0 hkW hbW
  go_enter Try.func50, Try.ntmps50
  go_upto_region 1 with fail
  rw [show (w.alloc (.cells (tellC t Aq nq cq Ad nd cd).toArray 29)).alloc (.cells #[.int .i64 0, .int .i64 0, .int .i64 0, .int .i64 0, .int .i64 0, .int .i64 0, .string ⟨#[]⟩, .bool false, .int .i64 0, .int .i64 0, .slice none 0 0, .slice none 0 0, .bool false, .int .i64 0, .int .i64 0, .int .i64 0, .int .i64 0, .string ⟨#[]⟩] 29) = W from hW.symm, ← hZ, ← hgX]
  clear hW hgX hZ hZ'
  go_wp2_with fail
  refine (refNumber_any B g N s.l s.e 2 _ H0.out.r (by omega)).mono ?_
  rintro x w1 ⟨v, l1, e1, hv, hl1, he1, rfl, hR1, hK1⟩
  have hs1 : tk 2 s = ⟨l1, e1⟩ := by unfold tk; rw [hl1.out, he1.out]
  have hq1 : vl 2 s = v := by unfold vl; rw [hv.out]
  have b1 : v < 4294967296 := by have := vl_lt 2 s; rw [hq1] at this; have e : (256 : Nat) ^ 2 ≤ 4294967296 := by decide
                                 omega
  have hwr : IntKind.i64.wrap (v : Int) = v := IntWalk.i64_in _ (by omega)
  have h1 := H0.out.call hR1 hK1
  have x1 := h1.x.cell 2 _ rfl
  have f1 := h1.x.free 2
  have H8 := Lib.hid (show GtW w (w1.setCell ⟨gX, 2, none⟩ (.int .i64 v)) B g N gX Z (tellC ({ t with code := (v : Int) } : TellV) Aq nq cq Ad nd cd) l1 e1 from h1.set 2 (.int .i64 v))
  have HD8 := Lib.hid (HO.out.d.below (H8.out.k.is hBg (by omega)))
  have HS1 := Lib.hid hs1
  have HQ1 := Lib.hid hq1
  clear hR1 hK1 h1 hs1 hq1 hv hl1 he1
  go_upto_region 29 with fail
  generalize w1.setCell ⟨gX, 2, none⟩ (.int .i64 v) = w8 at H8 HD8 ⊢
  clear x1 f1
  have hXf := H8.out.x
  have hF := H8.out.z.setRow (tellC ({ t with code := (v : Int) } : TellV) Aq nq cq Ad nd cd)
  have hks := keeps_setRow w8 (g := Z) (tellC ({ t with code := (v : Int) } : TellV) Aq nq cq Ad nd cd).toArray
  have hkz := hks.is (B := g + 1) (by have := H8.out.o; omega) (Nat.le_of_lt H8.out.z.lt)
  have HR := Lib.hid (H8.out.r.below (B' := g + 1) hkz (by omega))
  have HK := Lib.hid (H8.out.k.thenB (hks.is (B := w.heap.size) (by have := H8.out.o; omega) (Nat.le_of_lt H8.out.z.lt)))
  have HQ9 := Lib.hid (OwR.keeps HO.out.q HK.out (fun k hk e => by have e' : k = g := e; omega))
  have HD9 := Lib.hid (HD8.out.below (hkz.mono (by omega)))
  have HZ9 := Lib.hid H8.out.z
  clear hks hkz
  go_wp2_with first
    | (refine wpList_loadBlk rfl (.tmp 4) rfl rfl (by kernel_rfl) tellT_agg hXf ?_; simp only [Act.put, List.setIfInBounds_toArray, List.set_cons_succ, List.set_cons_zero])
    | (refine wpList_storeBlk rfl (.tmp 6) (.tmp 97) rfl rfl (tellC ({ t with code := (v : Int) } : TellV) Aq nq cq Ad nd cd) rfl rfl (by kernel_rfl) HZ9.out rfl (by simp [tellC, Value.oneCell']) ?_)
  exact bodyPost_ret (v := .agg (tellC ({ t with code := (v : Int) } : TellV) Aq nq cq Ad nd cd).toArray) (results_cellBlk Try.results50 rfl hF (by kernel_rfl) tellT_agg) rfl ⟨({ t with code := (v : Int) } : TellV), ⟨l1, e1⟩, _, _, _, _, _, _, Lib.hid (by rw [← HQ1.out]; rfl), Lib.hid (by rw [← HS1.out]; rfl), rfl, ⟨HQ9.out, HD9.out⟩, HR.out, HK.out, Lib.hid (by first | exact .inr ⟨rfl, rfl, rfl⟩ | exact .inl rfl)⟩
set_option maxRecDepth 20000 in
set_option maxHeartbeats 8000000 in
theorem refGet_105 (w : World) (B g N b : Nat) (hgb : g < b) (hbw : b ≤ w.heap.size) (t : TellV) (s : S18) (Aq : Option Addr) (nq cq : Nat) (Ad : Option Addr) (nd cd : Nat) (h : RRd w B g N s.l s.e) (ho : GtOk w B b t Aq nq cq Ad nd) :
    Calls Try.prog 50 #[.pointer (some ⟨g, 0, none⟩), .agg (tellC t Aq nq cq Ad nd cd).toArray, .int .u8 105] w (GtPost B g N b 105 t s Aq nq cq w) := by
  have hgl := h.lt
  have hBg := h.low
  obtain ⟨W, hW⟩ : ∃ W, W = (w.alloc (.cells (tellC t Aq nq cq Ad nd cd).toArray 29)).alloc (.cells zero18.toArray 29) := ⟨_, rfl⟩
  have hkW : Keeps (Is g) w W := by rw [hW]; exact ((Keeps.refl _ _).alloc _).alloc _
  have hbW : Below w.heap.size w W := by rw [hW]; exact ((Below.refl _ _).alloc (Nat.le_refl _) _).alloc (by simp) _
  obtain ⟨gX, hgX⟩ : ∃ x, x = w.heap.size := ⟨_, rfl⟩
  obtain ⟨Z, hZ'⟩ : ∃ x, x = (w.alloc (.cells (tellC t Aq nq cq Ad nd cd).toArray 29)).heap.size := ⟨_, rfl⟩
  have hZ : Z = w.heap.size + 1 := by rw [hZ']; simp
  have hX0 : Blk W gX 29 (tellC t Aq nq cq Ad nd cd) := by rw [hW, hgX]; exact (Blk.new w 29 (tellC t Aq nq cq Ad nd cd)).up ((Below.refl _ _).alloc (Nat.le_refl _) _)
  have hZ0 : Blk W Z 29 zero18 := by rw [hW, hZ']; exact Blk.new (w.alloc (.cells (tellC t Aq nq cq Ad nd cd).toArray 29)) 29 zero18
  have H0 := Lib.hid (show GtW w W B g N gX Z (tellC t Aq nq cq Ad nd cd) s.l s.e from ⟨h.up hbW, hX0, hZ0, hkW, by omega⟩)
  have HO := Lib.hid ho
  clear h ho hX0 hZ0 hkW hbW
  go_enter Try.func50, Try.ntmps50
  go_upto_region 1 with fail
  rw [show (w.alloc (.cells (tellC t Aq nq cq Ad nd cd).toArray 29)).alloc (.cells #[.int .i64 0, .int .i64 0, .int .i64 0, .int .i64 0, .int .i64 0, .int .i64 0, .string ⟨#[]⟩, .bool false, .int .i64 0, .int .i64 0, .slice none 0 0, .slice none 0 0, .bool false, .int .i64 0, .int .i64 0, .int .i64 0, .int .i64 0, .string ⟨#[]⟩] 29) = W from hW.symm, ← hZ, ← hgX]
  clear hW hgX hZ hZ'
  go_wp2_with fail
  refine (refNumber_any B g N s.l s.e 4 _ H0.out.r (by omega)).mono ?_
  rintro x w1 ⟨v, l1, e1, hv, hl1, he1, rfl, hR1, hK1⟩
  have hs1 : tk 4 s = ⟨l1, e1⟩ := by unfold tk; rw [hl1.out, he1.out]
  have hq1 : vl 4 s = v := by unfold vl; rw [hv.out]
  have b1 : v < 4294967296 := by have := vl_lt 4 s; rw [hq1] at this; have e : (256 : Nat) ^ 4 ≤ 4294967296 := by decide
                                 omega
  have hwr : IntKind.i64.wrap (v : Int) = v := IntWalk.i64_in _ (by omega)
  have h1 := H0.out.call hR1 hK1
  have x1 := h1.x.cell 4 _ rfl
  have f1 := h1.x.free 4
  have H8 := Lib.hid (show GtW w (w1.setCell ⟨gX, 4, none⟩ (.int .i64 v)) B g N gX Z (tellC ({ t with iounit := (v : Int) } : TellV) Aq nq cq Ad nd cd) l1 e1 from h1.set 4 (.int .i64 v))
  have HD8 := Lib.hid (HO.out.d.below (H8.out.k.is hBg (by omega)))
  have HS1 := Lib.hid hs1
  have HQ1 := Lib.hid hq1
  clear hR1 hK1 h1 hs1 hq1 hv hl1 he1
  go_upto_region 29 with fail
  generalize w1.setCell ⟨gX, 4, none⟩ (.int .i64 v) = w8 at H8 HD8 ⊢
  clear x1 f1
  have hXf := H8.out.x
  have hF := H8.out.z.setRow (tellC ({ t with iounit := (v : Int) } : TellV) Aq nq cq Ad nd cd)
  have hks := keeps_setRow w8 (g := Z) (tellC ({ t with iounit := (v : Int) } : TellV) Aq nq cq Ad nd cd).toArray
  have hkz := hks.is (B := g + 1) (by have := H8.out.o; omega) (Nat.le_of_lt H8.out.z.lt)
  have HR := Lib.hid (H8.out.r.below (B' := g + 1) hkz (by omega))
  have HK := Lib.hid (H8.out.k.thenB (hks.is (B := w.heap.size) (by have := H8.out.o; omega) (Nat.le_of_lt H8.out.z.lt)))
  have HQ9 := Lib.hid (OwR.keeps HO.out.q HK.out (fun k hk e => by have e' : k = g := e; omega))
  have HD9 := Lib.hid (HD8.out.below (hkz.mono (by omega)))
  have HZ9 := Lib.hid H8.out.z
  clear hks hkz
  go_wp2_with first
    | (refine wpList_loadBlk rfl (.tmp 4) rfl rfl (by kernel_rfl) tellT_agg hXf ?_; simp only [Act.put, List.setIfInBounds_toArray, List.set_cons_succ, List.set_cons_zero])
    | (refine wpList_storeBlk rfl (.tmp 6) (.tmp 97) rfl rfl (tellC ({ t with iounit := (v : Int) } : TellV) Aq nq cq Ad nd cd) rfl rfl (by kernel_rfl) HZ9.out rfl (by simp [tellC, Value.oneCell']) ?_)
  exact bodyPost_ret (v := .agg (tellC ({ t with iounit := (v : Int) } : TellV) Aq nq cq Ad nd cd).toArray) (results_cellBlk Try.results50 rfl hF (by kernel_rfl) tellT_agg) rfl ⟨({ t with iounit := (v : Int) } : TellV), ⟨l1, e1⟩, _, _, _, _, _, _, Lib.hid (by rw [← HQ1.out]; rfl), Lib.hid (by rw [← HS1.out]; rfl), rfl, ⟨HQ9.out, HD9.out⟩, HR.out, HK.out, Lib.hid (by first | exact .inr ⟨rfl, rfl, rfl⟩ | exact .inl rfl)⟩
set_option maxRecDepth 20000 in
set_option maxHeartbeats 8000000 in
theorem refGet_99 (w : World) (B g N b : Nat) (hgb : g < b) (hbw : b ≤ w.heap.size) (t : TellV) (s : S18) (Aq : Option Addr) (nq cq : Nat) (Ad : Option Addr) (nd cd : Nat) (h : RRd w B g N s.l s.e) (ho : GtOk w B b t Aq nq cq Ad nd) :
    Calls Try.prog 50 #[.pointer (some ⟨g, 0, none⟩), .agg (tellC t Aq nq cq Ad nd cd).toArray, .int .u8 99] w (GtPost B g N b 99 t s Aq nq cq w) := by
  have hgl := h.lt
  have hBg := h.low
  obtain ⟨W, hW⟩ : ∃ W, W = (w.alloc (.cells (tellC t Aq nq cq Ad nd cd).toArray 29)).alloc (.cells zero18.toArray 29) := ⟨_, rfl⟩
  have hkW : Keeps (Is g) w W := by rw [hW]; exact ((Keeps.refl _ _).alloc _).alloc _
  have hbW : Below w.heap.size w W := by rw [hW]; exact ((Below.refl _ _).alloc (Nat.le_refl _) _).alloc (by simp) _
  obtain ⟨gX, hgX⟩ : ∃ x, x = w.heap.size := ⟨_, rfl⟩
  obtain ⟨Z, hZ'⟩ : ∃ x, x = (w.alloc (.cells (tellC t Aq nq cq Ad nd cd).toArray 29)).heap.size := ⟨_, rfl⟩
  have hZ : Z = w.heap.size + 1 := by rw [hZ']; simp
  have hX0 : Blk W gX 29 (tellC t Aq nq cq Ad nd cd) := by rw [hW, hgX]; exact (Blk.new w 29 (tellC t Aq nq cq Ad nd cd)).up ((Below.refl _ _).alloc (Nat.le_refl _) _)
  have hZ0 : Blk W Z 29 zero18 := by rw [hW, hZ']; exact Blk.new (w.alloc (.cells (tellC t Aq nq cq Ad nd cd).toArray 29)) 29 zero18
  have H0 := Lib.hid (show GtW w W B g N gX Z (tellC t Aq nq cq Ad nd cd) s.l s.e from ⟨h.up hbW, hX0, hZ0, hkW, by omega⟩)
  have HO := Lib.hid ho
  clear h ho hX0 hZ0 hkW hbW
  go_enter Try.func50, Try.ntmps50
  go_upto_region 1 with fail
  rw [show (w.alloc (.cells (tellC t Aq nq cq Ad nd cd).toArray 29)).alloc (.cells #[.int .i64 0, .int .i64 0, .int .i64 0, .int .i64 0, .int .i64 0, .int .i64 0, .string ⟨#[]⟩, .bool false, .int .i64 0, .int .i64 0, .slice none 0 0, .slice none 0 0, .bool false, .int .i64 0, .int .i64 0, .int .i64 0, .int .i64 0, .string ⟨#[]⟩] 29) = W from hW.symm, ← hZ, ← hgX]
  clear hW hgX hZ hZ'
  go_wp2_with fail
  refine (refNumber_any B g N s.l s.e 4 _ H0.out.r (by omega)).mono ?_
  rintro x w1 ⟨v, l1, e1, hv, hl1, he1, rfl, hR1, hK1⟩
  have hs1 : tk 4 s = ⟨l1, e1⟩ := by unfold tk; rw [hl1.out, he1.out]
  have hq1 : vl 4 s = v := by unfold vl; rw [hv.out]
  have b1 : v < 4294967296 := by have := vl_lt 4 s; rw [hq1] at this; have e : (256 : Nat) ^ 4 ≤ 4294967296 := by decide
                                 omega
  have hwr : IntKind.i64.wrap (v : Int) = v := IntWalk.i64_in _ (by omega)
  have h1 := H0.out.call hR1 hK1
  have x1 := h1.x.cell 5 _ rfl
  have f1 := h1.x.free 5
  have H8 := Lib.hid (show GtW w (w1.setCell ⟨gX, 5, none⟩ (.int .i64 v)) B g N gX Z (tellC ({ t with count := (v : Int) } : TellV) Aq nq cq Ad nd cd) l1 e1 from h1.set 5 (.int .i64 v))
  have HD8 := Lib.hid (HO.out.d.below (H8.out.k.is hBg (by omega)))
  have HS1 := Lib.hid hs1
  have HQ1 := Lib.hid hq1
  clear hR1 hK1 h1 hs1 hq1 hv hl1 he1
  go_upto_region 29 with fail
  generalize w1.setCell ⟨gX, 5, none⟩ (.int .i64 v) = w8 at H8 HD8 ⊢
  clear x1 f1
  have hXf := H8.out.x
  have hF := H8.out.z.setRow (tellC ({ t with count := (v : Int) } : TellV) Aq nq cq Ad nd cd)
  have hks := keeps_setRow w8 (g := Z) (tellC ({ t with count := (v : Int) } : TellV) Aq nq cq Ad nd cd).toArray
  have hkz := hks.is (B := g + 1) (by have := H8.out.o; omega) (Nat.le_of_lt H8.out.z.lt)
  have HR := Lib.hid (H8.out.r.below (B' := g + 1) hkz (by omega))
  have HK := Lib.hid (H8.out.k.thenB (hks.is (B := w.heap.size) (by have := H8.out.o; omega) (Nat.le_of_lt H8.out.z.lt)))
  have HQ9 := Lib.hid (OwR.keeps HO.out.q HK.out (fun k hk e => by have e' : k = g := e; omega))
  have HD9 := Lib.hid (HD8.out.below (hkz.mono (by omega)))
  have HZ9 := Lib.hid H8.out.z
  clear hks hkz
  go_wp2_with first
    | (refine wpList_loadBlk rfl (.tmp 4) rfl rfl (by kernel_rfl) tellT_agg hXf ?_; simp only [Act.put, List.setIfInBounds_toArray, List.set_cons_succ, List.set_cons_zero])
    | (refine wpList_storeBlk rfl (.tmp 6) (.tmp 97) rfl rfl (tellC ({ t with count := (v : Int) } : TellV) Aq nq cq Ad nd cd) rfl rfl (by kernel_rfl) HZ9.out rfl (by simp [tellC, Value.oneCell']) ?_)
  exact bodyPost_ret (v := .agg (tellC ({ t with count := (v : Int) } : TellV) Aq nq cq Ad nd cd).toArray) (results_cellBlk Try.results50 rfl hF (by kernel_rfl) tellT_agg) rfl ⟨({ t with count := (v : Int) } : TellV), ⟨l1, e1⟩, _, _, _, _, _, _, Lib.hid (by rw [← HQ1.out]; rfl), Lib.hid (by rw [← HS1.out]; rfl), rfl, ⟨HQ9.out, HD9.out⟩, HR.out, HK.out, Lib.hid (by first | exact .inr ⟨rfl, rfl, rfl⟩ | exact .inl rfl)⟩
set_option maxRecDepth 20000 in
set_option maxHeartbeats 8000000 in
theorem refGet_45 (w : World) (B g N b : Nat) (hgb : g < b) (hbw : b ≤ w.heap.size) (t : TellV) (s : S18) (Aq : Option Addr) (nq cq : Nat) (Ad : Option Addr) (nd cd : Nat) (h : RRd w B g N s.l s.e) (ho : GtOk w B b t Aq nq cq Ad nd) :
    Calls Try.prog 50 #[.pointer (some ⟨g, 0, none⟩), .agg (tellC t Aq nq cq Ad nd cd).toArray, .int .u8 45] w (GtPost B g N b 45 t s Aq nq cq w) := by
  have hgl := h.lt
  have hBg := h.low
  obtain ⟨W, hW⟩ : ∃ W, W = (w.alloc (.cells (tellC t Aq nq cq Ad nd cd).toArray 29)).alloc (.cells zero18.toArray 29) := ⟨_, rfl⟩
  have hkW : Keeps (Is g) w W := by rw [hW]; exact ((Keeps.refl _ _).alloc _).alloc _
  have hbW : Below w.heap.size w W := by rw [hW]; exact ((Below.refl _ _).alloc (Nat.le_refl _) _).alloc (by simp) _
  obtain ⟨gX, hgX⟩ : ∃ x, x = w.heap.size := ⟨_, rfl⟩
  obtain ⟨Z, hZ'⟩ : ∃ x, x = (w.alloc (.cells (tellC t Aq nq cq Ad nd cd).toArray 29)).heap.size := ⟨_, rfl⟩
  have hZ : Z = w.heap.size + 1 := by rw [hZ']; simp
  have hX0 : Blk W gX 29 (tellC t Aq nq cq Ad nd cd) := by rw [hW, hgX]; exact (Blk.new w 29 (tellC t Aq nq cq Ad nd cd)).up ((Below.refl _ _).alloc (Nat.le_refl _) _)
  have hZ0 : Blk W Z 29 zero18 := by rw [hW, hZ']; exact Blk.new (w.alloc (.cells (tellC t Aq nq cq Ad nd cd).toArray 29)) 29 zero18
  have H0 := Lib.hid (show GtW w W B g N gX Z (tellC t Aq nq cq Ad nd cd) s.l s.e from ⟨h.up hbW, hX0, hZ0, hkW, by omega⟩)
  have HO := Lib.hid ho
  clear h ho hX0 hZ0 hkW hbW
  go_enter Try.func50, Try.ntmps50
  go_upto_region 1 with fail
  rw [show (w.alloc (.cells (tellC t Aq nq cq Ad nd cd).toArray 29)).alloc (.cells #[.int .i64 0, .int .i64 0, .int .i64 0, .int .i64 0, .int .i64 0, .int .i64 0, .string ⟨#[]⟩, .bool false, .int .i64 0, .int .i64 0, .slice none 0 0, .slice none 0 0, .bool false, .int .i64 0, .int .i64 0, .int .i64 0, .int .i64 0, .string ⟨#[]⟩] 29) = W from hW.symm, ← hZ, ← hgX]
  clear hW hgX hZ hZ'
  have H8 := H0
  have HD8 := Lib.hid (HO.out.d.below (H8.out.k.is hBg (by omega)))
  go_upto_region 29 with fail
  generalize W = w8 at H8 HD8 ⊢
  have hXf := H8.out.x
  have hF := H8.out.z.setRow (tellC t Aq nq cq Ad nd cd)
  have hks := keeps_setRow w8 (g := Z) (tellC t Aq nq cq Ad nd cd).toArray
  have hkz := hks.is (B := g + 1) (by have := H8.out.o; omega) (Nat.le_of_lt H8.out.z.lt)
  have HR := Lib.hid (H8.out.r.below (B' := g + 1) hkz (by omega))
  have HK := Lib.hid (H8.out.k.thenB (hks.is (B := w.heap.size) (by have := H8.out.o; omega) (Nat.le_of_lt H8.out.z.lt)))
  have HQ9 := Lib.hid (OwR.keeps HO.out.q HK.out (fun k hk e => by have e' : k = g := e; omega))
  have HD9 := Lib.hid (HD8.out.below (hkz.mono (by omega)))
  have HZ9 := Lib.hid H8.out.z
  clear hks hkz
  go_wp2_with first
    | (refine wpList_loadBlk rfl (.tmp 4) rfl rfl (by kernel_rfl) tellT_agg hXf ?_; simp only [Act.put, List.setIfInBounds_toArray, List.set_cons_succ, List.set_cons_zero])
    | (refine wpList_storeBlk rfl (.tmp 6) (.tmp 97) rfl rfl (tellC t Aq nq cq Ad nd cd) rfl rfl (by kernel_rfl) HZ9.out rfl (by simp [tellC, Value.oneCell']) ?_)
  exact bodyPost_ret (v := .agg (tellC t Aq nq cq Ad nd cd).toArray) (results_cellBlk Try.results50 rfl hF (by kernel_rfl) tellT_agg) rfl ⟨t, s, _, _, _, _, _, _, Lib.hid rfl, Lib.hid rfl, rfl, ⟨HQ9.out, HD9.out⟩, HR.out, HK.out, Lib.hid (by first | exact .inr ⟨rfl, rfl, rfl⟩ | exact .inl rfl)⟩
set_option maxRecDepth 20000 in
set_option maxHeartbeats 8000000 in
theorem refGet_110 (w : World) (B g N b : Nat) (hgb : g < b) (hbw : b ≤ w.heap.size) (t : TellV) (s : S18) (Aq : Option Addr) (nq cq : Nat) (Ad : Option Addr) (nd cd : Nat) (h : RRd w B g N s.l s.e) (ho : GtOk w B b t Aq nq cq Ad nd) :
    Calls Try.prog 50 #[.pointer (some ⟨g, 0, none⟩), .agg (tellC t Aq nq cq Ad nd cd).toArray, .int .u8 110] w (GtPost B g N b 110 t s Aq nq cq w) := by
  have hgl := h.lt
  have hBg := h.low
  obtain ⟨W, hW⟩ : ∃ W, W = (w.alloc (.cells (tellC t Aq nq cq Ad nd cd).toArray 29)).alloc (.cells zero18.toArray 29) := ⟨_, rfl⟩
  have hkW : Keeps (Is g) w W := by rw [hW]; exact ((Keeps.refl _ _).alloc _).alloc _
  have hbW : Below w.heap.size w W := by rw [hW]; exact ((Below.refl _ _).alloc (Nat.le_refl _) _).alloc (by simp) _
  obtain ⟨gX, hgX⟩ : ∃ x, x = w.heap.size := ⟨_, rfl⟩
  obtain ⟨Z, hZ'⟩ : ∃ x, x = (w.alloc (.cells (tellC t Aq nq cq Ad nd cd).toArray 29)).heap.size := ⟨_, rfl⟩
  have hZ : Z = w.heap.size + 1 := by rw [hZ']; simp
  have hX0 : Blk W gX 29 (tellC t Aq nq cq Ad nd cd) := by rw [hW, hgX]; exact (Blk.new w 29 (tellC t Aq nq cq Ad nd cd)).up ((Below.refl _ _).alloc (Nat.le_refl _) _)
  have hZ0 : Blk W Z 29 zero18 := by rw [hW, hZ']; exact Blk.new (w.alloc (.cells (tellC t Aq nq cq Ad nd cd).toArray 29)) 29 zero18
  have H0 := Lib.hid (show GtW w W B g N gX Z (tellC t Aq nq cq Ad nd cd) s.l s.e from ⟨h.up hbW, hX0, hZ0, hkW, by omega⟩)
  have HO := Lib.hid ho
  clear h ho hX0 hZ0 hkW hbW
  go_enter Try.func50, Try.ntmps50
  go_upto_region 1 with fail
  rw [show (w.alloc (.cells (tellC t Aq nq cq Ad nd cd).toArray 29)).alloc (.cells #[.int .i64 0, .int .i64 0, .int .i64 0, .int .i64 0, .int .i64 0, .int .i64 0, .string ⟨#[]⟩, .bool false, .int .i64 0, .int .i64 0, .slice none 0 0, .slice none 0 0, .bool false, .int .i64 0, .int .i64 0, .int .i64 0, .int .i64 0, .string ⟨#[]⟩] 29) = W from hW.symm, ← hZ, ← hgX]
  clear hW hgX hZ hZ'
  go_wp2_with fail
  refine (refRText_any B g N s.l s.e _ H0.out.r).mono ?_
  rintro x w1 ⟨v, l1, e1, hv, hl1, he1, rfl, hR1, hK1⟩
  have h1 := H0.out.call hR1 hK1
  have x1 := h1.x.cell 6 _ rfl
  have f1 := h1.x.free 6
  have H8 := Lib.hid (show GtW w (w1.setCell ⟨gX, 6, none⟩ (.string (st v))) B g N gX Z (tellC ({ t with name := v } : TellV) Aq nq cq Ad nd cd) l1 e1 from h1.set 6 (.string (st v)))
  have HD8 := Lib.hid (HO.out.d.below (H8.out.k.is hBg (by omega)))
  clear hR1 hK1 h1
  go_upto_region 29 with fail
  generalize w1.setCell ⟨gX, 6, none⟩ (.string (st v)) = w8 at H8 HD8 ⊢
  clear x1 f1
  have hXf := H8.out.x
  have hF := H8.out.z.setRow (tellC ({ t with name := v } : TellV) Aq nq cq Ad nd cd)
  have hks := keeps_setRow w8 (g := Z) (tellC ({ t with name := v } : TellV) Aq nq cq Ad nd cd).toArray
  have hkz := hks.is (B := g + 1) (by have := H8.out.o; omega) (Nat.le_of_lt H8.out.z.lt)
  have HR := Lib.hid (H8.out.r.below (B' := g + 1) hkz (by omega))
  have HK := Lib.hid (H8.out.k.thenB (hks.is (B := w.heap.size) (by have := H8.out.o; omega) (Nat.le_of_lt H8.out.z.lt)))
  have HQ9 := Lib.hid (OwR.keeps HO.out.q HK.out (fun k hk e => by have e' : k = g := e; omega))
  have HD9 := Lib.hid (HD8.out.below (hkz.mono (by omega)))
  have HZ9 := Lib.hid H8.out.z
  clear hks hkz
  go_wp2_with first
    | (refine wpList_loadBlk rfl (.tmp 4) rfl rfl (by kernel_rfl) tellT_agg hXf ?_; simp only [Act.put, List.setIfInBounds_toArray, List.set_cons_succ, List.set_cons_zero])
    | (refine wpList_storeBlk rfl (.tmp 6) (.tmp 97) rfl rfl (tellC ({ t with name := v } : TellV) Aq nq cq Ad nd cd) rfl rfl (by kernel_rfl) HZ9.out rfl (by simp [tellC, Value.oneCell']) ?_)
  exact bodyPost_ret (v := .agg (tellC ({ t with name := v } : TellV) Aq nq cq Ad nd cd).toArray) (results_cellBlk Try.results50 rfl hF (by kernel_rfl) tellT_agg) rfl ⟨({ t with name := v } : TellV), ⟨l1, e1⟩, _, _, _, _, _, _, Lib.hid (by rw [hv.out]; rfl), Lib.hid (by rw [hl1.out, he1.out]; rfl), rfl, ⟨HQ9.out, HD9.out⟩, HR.out, HK.out, Lib.hid (by first | exact .inr ⟨rfl, rfl, rfl⟩ | exact .inl rfl)⟩
set_option maxRecDepth 20000 in
set_option maxHeartbeats 8000000 in
theorem refGet_100 (w : World) (B g N b : Nat) (hgb : g < b) (hbw : b ≤ w.heap.size) (t : TellV) (s : S18) (Aq : Option Addr) (nq cq : Nat) (Ad : Option Addr) (nd cd : Nat) (h : RRd w B g N s.l s.e) (ho : GtOk w B b t Aq nq cq Ad nd) :
    Calls Try.prog 50 #[.pointer (some ⟨g, 0, none⟩), .agg (tellC t Aq nq cq Ad nd cd).toArray, .int .u8 100] w (GtPost B g N b 100 t s Aq nq cq w) := by
  have hgl := h.lt
  have hBg := h.low
  obtain ⟨W, hW⟩ : ∃ W, W = (w.alloc (.cells (tellC t Aq nq cq Ad nd cd).toArray 29)).alloc (.cells zero18.toArray 29) := ⟨_, rfl⟩
  have hkW : Keeps (Is g) w W := by rw [hW]; exact ((Keeps.refl _ _).alloc _).alloc _
  have hbW : Below w.heap.size w W := by rw [hW]; exact ((Below.refl _ _).alloc (Nat.le_refl _) _).alloc (by simp) _
  obtain ⟨gX, hgX⟩ : ∃ x, x = w.heap.size := ⟨_, rfl⟩
  obtain ⟨Z, hZ'⟩ : ∃ x, x = (w.alloc (.cells (tellC t Aq nq cq Ad nd cd).toArray 29)).heap.size := ⟨_, rfl⟩
  have hZ : Z = w.heap.size + 1 := by rw [hZ']; simp
  have hX0 : Blk W gX 29 (tellC t Aq nq cq Ad nd cd) := by rw [hW, hgX]; exact (Blk.new w 29 (tellC t Aq nq cq Ad nd cd)).up ((Below.refl _ _).alloc (Nat.le_refl _) _)
  have hZ0 : Blk W Z 29 zero18 := by rw [hW, hZ']; exact Blk.new (w.alloc (.cells (tellC t Aq nq cq Ad nd cd).toArray 29)) 29 zero18
  have H0 := Lib.hid (show GtW w W B g N gX Z (tellC t Aq nq cq Ad nd cd) s.l s.e from ⟨h.up hbW, hX0, hZ0, hkW, by omega⟩)
  have HO := Lib.hid ho
  clear h ho hX0 hZ0 hkW hbW
  go_enter Try.func50, Try.ntmps50
  go_upto_region 1 with fail
  rw [show (w.alloc (.cells (tellC t Aq nq cq Ad nd cd).toArray 29)).alloc (.cells #[.int .i64 0, .int .i64 0, .int .i64 0, .int .i64 0, .int .i64 0, .int .i64 0, .string ⟨#[]⟩, .bool false, .int .i64 0, .int .i64 0, .slice none 0 0, .slice none 0 0, .bool false, .int .i64 0, .int .i64 0, .int .i64 0, .int .i64 0, .string ⟨#[]⟩] 29) = W from hW.symm, ← hZ, ← hgX]
  clear hW hgX hZ hZ'
  go_wp2_with fail
  refine (refRData_any B g N s.l s.e 1024 _ H0.out.r (by omega) (by omega)).mono ?_
  rintro x w1 ⟨A, m, c, v, l1, e1, hv, hl1, he1, rfl, hrd, hR1, hK1⟩
  have h1 := H0.out.call hR1 hK1
  have x1 := h1.x.cell 11 _ rfl
  have f1 := h1.x.free 11
  have H8 := Lib.hid (show GtW w (w1.setCell ⟨gX, 11, none⟩ (.slice A m c)) B g N gX Z (tellC ({ t with data := v } : TellV) Aq nq cq A m c) l1 e1 from h1.set 11 (.slice A m c))
  have HD8 := Lib.hid (show RdB (w1.setCell ⟨gX, 11, none⟩ (.slice A m c)) B A m v from hrd.below (((Keeps.refl (Is gX) w1).setCell (p := ⟨gX, 11, none⟩) (.inl rfl) (.slice A m c)).is (by have := h1.o; omega) (Nat.le_of_lt h1.x.lt)))
  clear hR1 hK1 h1 hrd
  go_upto_region 29 with fail
  generalize w1.setCell ⟨gX, 11, none⟩ (.slice A m c) = w8 at H8 HD8 ⊢
  clear x1 f1
  have hXf := H8.out.x
  have hF := H8.out.z.setRow (tellC ({ t with data := v } : TellV) Aq nq cq A m c)
  have hks := keeps_setRow w8 (g := Z) (tellC ({ t with data := v } : TellV) Aq nq cq A m c).toArray
  have hkz := hks.is (B := g + 1) (by have := H8.out.o; omega) (Nat.le_of_lt H8.out.z.lt)
  have HR := Lib.hid (H8.out.r.below (B' := g + 1) hkz (by omega))
  have HK := Lib.hid (H8.out.k.thenB (hks.is (B := w.heap.size) (by have := H8.out.o; omega) (Nat.le_of_lt H8.out.z.lt)))
  have HQ9 := Lib.hid (OwR.keeps HO.out.q HK.out (fun k hk e => by have e' : k = g := e; omega))
  have HD9 := Lib.hid (HD8.out.below (hkz.mono (by omega)))
  have HZ9 := Lib.hid H8.out.z
  clear hks hkz
  go_wp2_with first
    | (refine wpList_loadBlk rfl (.tmp 4) rfl rfl (by kernel_rfl) tellT_agg hXf ?_; simp only [Act.put, List.setIfInBounds_toArray, List.set_cons_succ, List.set_cons_zero])
    | (refine wpList_storeBlk rfl (.tmp 6) (.tmp 97) rfl rfl (tellC ({ t with data := v } : TellV) Aq nq cq A m c) rfl rfl (by kernel_rfl) HZ9.out rfl (by simp [tellC, Value.oneCell']) ?_)
  exact bodyPost_ret (v := .agg (tellC ({ t with data := v } : TellV) Aq nq cq A m c).toArray) (results_cellBlk Try.results50 rfl hF (by kernel_rfl) tellT_agg) rfl ⟨({ t with data := v } : TellV), ⟨l1, e1⟩, _, _, _, _, _, _, Lib.hid (by rw [hv.out]; rfl), Lib.hid (by rw [hl1.out, he1.out]; rfl), rfl, ⟨HQ9.out, HD9.out⟩, HR.out, HK.out, Lib.hid (by first | exact .inr ⟨rfl, rfl, rfl⟩ | exact .inl rfl)⟩
set_option maxRecDepth 20000 in
set_option maxHeartbeats 8000000 in
theorem refGet_113 (w : World) (B g N b : Nat) (hgb : g < b) (hbw : b ≤ w.heap.size) (t : TellV) (s : S18) (Aq : Option Addr) (nq cq : Nat) (Ad : Option Addr) (nd cd : Nat) (h : RRd w B g N s.l s.e) (ho : GtOk w B b t Aq nq cq Ad nd) :
    Calls Try.prog 50 #[.pointer (some ⟨g, 0, none⟩), .agg (tellC t Aq nq cq Ad nd cd).toArray, .int .u8 113] w (GtPost B g N b 113 t s Aq nq cq w) := by
  have hgl := h.lt
  have hBg := h.low
  obtain ⟨W, hW⟩ : ∃ W, W = (w.alloc (.cells (tellC t Aq nq cq Ad nd cd).toArray 29)).alloc (.cells zero18.toArray 29) := ⟨_, rfl⟩
  have hkW : Keeps (Is g) w W := by rw [hW]; exact ((Keeps.refl _ _).alloc _).alloc _
  have hbW : Below w.heap.size w W := by rw [hW]; exact ((Below.refl _ _).alloc (Nat.le_refl _) _).alloc (by simp) _
  obtain ⟨gX, hgX⟩ : ∃ x, x = w.heap.size := ⟨_, rfl⟩
  obtain ⟨Z, hZ'⟩ : ∃ x, x = (w.alloc (.cells (tellC t Aq nq cq Ad nd cd).toArray 29)).heap.size := ⟨_, rfl⟩
  have hZ : Z = w.heap.size + 1 := by rw [hZ']; simp
  have hX0 : Blk W gX 29 (tellC t Aq nq cq Ad nd cd) := by rw [hW, hgX]; exact (Blk.new w 29 (tellC t Aq nq cq Ad nd cd)).up ((Below.refl _ _).alloc (Nat.le_refl _) _)
  have hZ0 : Blk W Z 29 zero18 := by rw [hW, hZ']; exact Blk.new (w.alloc (.cells (tellC t Aq nq cq Ad nd cd).toArray 29)) 29 zero18
  have H0 := Lib.hid (show GtW w W B g N gX Z (tellC t Aq nq cq Ad nd cd) s.l s.e from ⟨h.up hbW, hX0, hZ0, hkW, by omega⟩)
  have HO := Lib.hid ho
  clear h ho hX0 hZ0 hkW hbW
  go_enter Try.func50, Try.ntmps50
  go_upto_region 1 with fail
  rw [show (w.alloc (.cells (tellC t Aq nq cq Ad nd cd).toArray 29)).alloc (.cells #[.int .i64 0, .int .i64 0, .int .i64 0, .int .i64 0, .int .i64 0, .int .i64 0, .string ⟨#[]⟩, .bool false, .int .i64 0, .int .i64 0, .slice none 0 0, .slice none 0 0, .bool false, .int .i64 0, .int .i64 0, .int .i64 0, .int .i64 0, .string ⟨#[]⟩] 29) = W from hW.symm, ← hZ, ← hgX]
  clear hW hgX hZ hZ'
  go_wp2_with fail
  refine (refQid_any B g N s _ H0.out.r).mono ?_
  rintro x w1 ⟨⟨qd, qv, qp⟩, s1, hq, hs1, rfl, hR1, hK1⟩
  have h1 := H0.out.call hR1 hK1
  have hx1 := h1.x
  have H8 := Lib.hid (h1.row (tellC ({ t with qid := ⟨qd, qv, qp⟩ } : TellV) Aq nq cq Ad nd cd))
  clear hR1 hK1 h1
  go_upto_region 29 with (refine wpList_storeMid8 rfl (.tmp 25) (.tmp 24) rfl rfl [.bool qd, .int .i64 qv, .int .i64 qp] (tellC ({ t with qid := ⟨qd, qv, qp⟩ } : TellV) Aq nq cq Ad nd cd) rfl rfl (by kernel_rfl) hx1 (by simp [tellC]) (by simp [Value.oneCell']) rfl ?_)
  clear hx1
  have HD8 := Lib.hid (HO.out.d.below (H8.out.k.is hBg (by omega)))
  generalize w1.setRow gX (tellC ({ t with qid := ⟨qd, qv, qp⟩ } : TellV) Aq nq cq Ad nd cd).toArray = w8 at H8 HD8 ⊢
  have hXf := H8.out.x
  have hF := H8.out.z.setRow (tellC ({ t with qid := ⟨qd, qv, qp⟩ } : TellV) Aq nq cq Ad nd cd)
  have hks := keeps_setRow w8 (g := Z) (tellC ({ t with qid := ⟨qd, qv, qp⟩ } : TellV) Aq nq cq Ad nd cd).toArray
  have hkz := hks.is (B := g + 1) (by have := H8.out.o; omega) (Nat.le_of_lt H8.out.z.lt)
  have HR := Lib.hid (H8.out.r.below (B' := g + 1) hkz (by omega))
  have HK := Lib.hid (H8.out.k.thenB (hks.is (B := w.heap.size) (by have := H8.out.o; omega) (Nat.le_of_lt H8.out.z.lt)))
  have HQ9 := Lib.hid (OwR.keeps HO.out.q HK.out (fun k hk e => by have e' : k = g := e; omega))
  have HD9 := Lib.hid (HD8.out.below (hkz.mono (by omega)))
  have HZ9 := Lib.hid H8.out.z
  clear hks hkz
  go_wp2_with first
    | (refine wpList_loadBlk rfl (.tmp 4) rfl rfl (by kernel_rfl) tellT_agg hXf ?_; simp only [Act.put, List.setIfInBounds_toArray, List.set_cons_succ, List.set_cons_zero])
    | (refine wpList_storeBlk rfl (.tmp 6) (.tmp 97) rfl rfl (tellC ({ t with qid := ⟨qd, qv, qp⟩ } : TellV) Aq nq cq Ad nd cd) rfl rfl (by kernel_rfl) HZ9.out rfl (by simp [tellC, Value.oneCell']) ?_)
  exact bodyPost_ret (v := .agg (tellC ({ t with qid := ⟨qd, qv, qp⟩ } : TellV) Aq nq cq Ad nd cd).toArray) (results_cellBlk Try.results50 rfl hF (by kernel_rfl) tellT_agg) rfl ⟨({ t with qid := ⟨qd, qv, qp⟩ } : TellV), s1, _, _, _, _, _, _, Lib.hid (by rw [hq.out]; rfl), Lib.hid (by rw [hs1.out]; rfl), rfl, ⟨HQ9.out, HD9.out⟩, HR.out, HK.out, Lib.hid (by first | exact .inr ⟨rfl, rfl, rfl⟩ | exact .inl rfl)⟩
set_option maxRecDepth 20000 in
set_option maxHeartbeats 8000000 in
theorem refGet_115 (w : World) (B g N b : Nat) (hgb : g < b) (hbw : b ≤ w.heap.size) (t : TellV) (s : S18) (Aq : Option Addr) (nq cq : Nat) (Ad : Option Addr) (nd cd : Nat) (h : RRd w B g N s.l s.e) (ho : GtOk w B b t Aq nq cq Ad nd) :
    Calls Try.prog 50 #[.pointer (some ⟨g, 0, none⟩), .agg (tellC t Aq nq cq Ad nd cd).toArray, .int .u8 115] w (GtPost B g N b 115 t s Aq nq cq w) := by
  have hgl := h.lt
  have hBg := h.low
  obtain ⟨W, hW⟩ : ∃ W, W = (w.alloc (.cells (tellC t Aq nq cq Ad nd cd).toArray 29)).alloc (.cells zero18.toArray 29) := ⟨_, rfl⟩
  have hkW : Keeps (Is g) w W := by rw [hW]; exact ((Keeps.refl _ _).alloc _).alloc _
  have hbW : Below w.heap.size w W := by rw [hW]; exact ((Below.refl _ _).alloc (Nat.le_refl _) _).alloc (by simp) _
  obtain ⟨gX, hgX⟩ : ∃ x, x = w.heap.size := ⟨_, rfl⟩
  obtain ⟨Z, hZ'⟩ : ∃ x, x = (w.alloc (.cells (tellC t Aq nq cq Ad nd cd).toArray 29)).heap.size := ⟨_, rfl⟩
  have hZ : Z = w.heap.size + 1 := by rw [hZ']; simp
  have hX0 : Blk W gX 29 (tellC t Aq nq cq Ad nd cd) := by rw [hW, hgX]; exact (Blk.new w 29 (tellC t Aq nq cq Ad nd cd)).up ((Below.refl _ _).alloc (Nat.le_refl _) _)
  have hZ0 : Blk W Z 29 zero18 := by rw [hW, hZ']; exact Blk.new (w.alloc (.cells (tellC t Aq nq cq Ad nd cd).toArray 29)) 29 zero18
  have H0 := Lib.hid (show GtW w W B g N gX Z (tellC t Aq nq cq Ad nd cd) s.l s.e from ⟨h.up hbW, hX0, hZ0, hkW, by omega⟩)
  have HO := Lib.hid ho
  clear h ho hX0 hZ0 hkW hbW
  go_enter Try.func50, Try.ntmps50
  go_upto_region 1 with fail
  rw [show (w.alloc (.cells (tellC t Aq nq cq Ad nd cd).toArray 29)).alloc (.cells #[.int .i64 0, .int .i64 0, .int .i64 0, .int .i64 0, .int .i64 0, .int .i64 0, .string ⟨#[]⟩, .bool false, .int .i64 0, .int .i64 0, .slice none 0 0, .slice none 0 0, .bool false, .int .i64 0, .int .i64 0, .int .i64 0, .int .i64 0, .string ⟨#[]⟩] 29) = W from hW.symm, ← hZ, ← hgX]
  clear hW hgX hZ hZ'
  go_wp2_with fail
  refine (refQid_any B g N s _ H0.out.r).mono ?_
  rintro x w1 ⟨⟨qd, qv, qp⟩, s1, hq, hs1, rfl, hR1, hK1⟩
  have h1 := H0.out.call hR1 hK1
  have hx1 := h1.x
  have H2 := Lib.hid (h1.row (tellC ({ t with sqid := ⟨qd, qv, qp⟩ } : TellV) Aq nq cq Ad nd cd))
  clear hR1 hK1 h1
  go_upto_region 18 with (refine wpList_storeMid8 rfl (.tmp 54) (.tmp 52) rfl rfl [.bool qd, .int .i64 qv, .int .i64 qp] (tellC ({ t with sqid := ⟨qd, qv, qp⟩ } : TellV) Aq nq cq Ad nd cd) rfl rfl (by kernel_rfl) hx1 (by simp [tellC]) (by simp [Value.oneCell']) rfl ?_)
  clear hx1
  generalize w1.setRow gX (tellC ({ t with sqid := ⟨qd, qv, qp⟩ } : TellV) Aq nq cq Ad nd cd).toArray = w2 at H2 ⊢
  go_wp2_with fail
  refine (refNumber_any B g N s1.l s1.e 4 _ H2.out.r (by omega)).mono ?_
  rintro x w3 ⟨v, l3, e3, hv, hl3, he3, rfl, hR1, hK1⟩
  have hs3 : tk 4 s1 = ⟨l3, e3⟩ := by unfold tk; rw [hl3.out, he3.out]
  have hq3 : vl 4 s1 = v := by unfold vl; rw [hv.out]
  have b3 : v < 4294967296 := by have := vl_lt 4 s1; rw [hq3] at this; simpa using this
  have hwr : IntKind.i64.wrap (v : Int) = v := IntWalk.i64_in _ (by omega)
  have h1 := H2.out.call hR1 hK1
  have x1 := h1.x.cell 15 _ rfl
  have f1 := h1.x.free 15
  have H4 := Lib.hid (show GtW w (w3.setCell ⟨gX, 15, none⟩ (.int .i64 v)) B g N gX Z (tellC ({ t with sqid := ⟨qd, qv, qp⟩, smode := (v : Int) } : TellV) Aq nq cq Ad nd cd) l3 e3 from h1.set 15 (.int .i64 v))
  have HS3 := Lib.hid hs3
  have HQ3 := Lib.hid hq3
  clear hR1 hK1 h1 hs3 hq3 hv hl3 he3
  go_upto_region 19 with fail
  generalize w3.setCell ⟨gX, 15, none⟩ (.int .i64 v) = w4 at H4 ⊢
  clear x1 f1
  go_wp2_with fail
  refine (refLong_any B g N ⟨l3, e3⟩ _ H4.out.r).mono ?_
  rintro x w5 ⟨p, s5, hp, hs5, rfl, hR1, hK1⟩
  have h1 := H4.out.call hR1 hK1
  have x1 := h1.x.cell 16 _ rfl
  have f1 := h1.x.free 16
  have H6 := Lib.hid (show GtW w (w5.setCell ⟨gX, 16, none⟩ (.int .i64 p)) B g N gX Z (tellC ({ t with sqid := ⟨qd, qv, qp⟩, smode := (v : Int), ssize := p } : TellV) Aq nq cq Ad nd cd) s5.l s5.e from h1.set 16 (.int .i64 p))
  have HQ5 := Lib.hid (show lgV (vl 8 (tk 4 s1)) = p by rw [HS3.out, hp.out])
  have HS5 := Lib.hid (show tk 8 (tk 4 s1) = s5 by rw [HS3.out, hs5.out])
  clear hR1 hK1 h1 hp hs5
  go_upto_region 20 with fail
  generalize w5.setCell ⟨gX, 16, none⟩ (.int .i64 p) = w6 at H6 ⊢
  clear x1 f1
  go_wp2_with fail
  refine (refRText_any B g N s5.l s5.e _ H6.out.r).mono ?_
  rintro x w7 ⟨n, l7, e7, hn, hl7, he7, rfl, hR1, hK1⟩
  have h1 := H6.out.call hR1 hK1
  have x1 := h1.x.cell 17 _ rfl
  have f1 := h1.x.free 17
  have H8 := Lib.hid (show GtW w (w7.setCell ⟨gX, 17, none⟩ (.string (st n))) B g N gX Z (tellC ({ t with sqid := ⟨qd, qv, qp⟩, smode := (v : Int), ssize := p, sname := n } : TellV) Aq nq cq Ad nd cd) l7 e7 from h1.set 17 (.string (st n)))
  have HD8 := Lib.hid (HO.out.d.below (H8.out.k.is hBg (by omega)))
  clear hR1 hK1 h1
  go_upto_region 29 with fail
  generalize w7.setCell ⟨gX, 17, none⟩ (.string (st n)) = w8 at H8 HD8 ⊢
  clear x1 f1
  have hXf := H8.out.x
  have hF := H8.out.z.setRow (tellC ({ t with sqid := ⟨qd, qv, qp⟩, smode := (v : Int), ssize := p, sname := n } : TellV) Aq nq cq Ad nd cd)
  have hks := keeps_setRow w8 (g := Z) (tellC ({ t with sqid := ⟨qd, qv, qp⟩, smode := (v : Int), ssize := p, sname := n } : TellV) Aq nq cq Ad nd cd).toArray
  have hkz := hks.is (B := g + 1) (by have := H8.out.o; omega) (Nat.le_of_lt H8.out.z.lt)
  have HR := Lib.hid (H8.out.r.below (B' := g + 1) hkz (by omega))
  have HK := Lib.hid (H8.out.k.thenB (hks.is (B := w.heap.size) (by have := H8.out.o; omega) (Nat.le_of_lt H8.out.z.lt)))
  have HQ9 := Lib.hid (OwR.keeps HO.out.q HK.out (fun k hk e => by have e' : k = g := e; omega))
  have HD9 := Lib.hid (HD8.out.below (hkz.mono (by omega)))
  have HZ9 := Lib.hid H8.out.z
  clear hks hkz
  go_wp2_with first
    | (refine wpList_loadBlk rfl (.tmp 4) rfl rfl (by kernel_rfl) tellT_agg hXf ?_; simp only [Act.put, List.setIfInBounds_toArray, List.set_cons_succ, List.set_cons_zero])
    | (refine wpList_storeBlk rfl (.tmp 6) (.tmp 97) rfl rfl (tellC ({ t with sqid := ⟨qd, qv, qp⟩, smode := (v : Int), ssize := p, sname := n } : TellV) Aq nq cq Ad nd cd) rfl rfl (by kernel_rfl) HZ9.out rfl (by simp [tellC, Value.oneCell']) ?_)
  exact bodyPost_ret (v := .agg (tellC ({ t with sqid := ⟨qd, qv, qp⟩, smode := (v : Int), ssize := p, sname := n } : TellV) Aq nq cq Ad nd cd).toArray) (results_cellBlk Try.results50 rfl hF (by kernel_rfl) tellT_agg) rfl ⟨({ t with sqid := ⟨qd, qv, qp⟩, smode := (v : Int), ssize := p, sname := n } : TellV), ⟨l7, e7⟩, _, _, _, _, _, _, Lib.hid (by rw [hq.out, ← HQ3.out, ← HQ5.out, hn.out, ← HS5.out, hs1.out]; rfl), Lib.hid (by rw [hl7.out, he7.out, ← HS5.out, hs1.out]; rfl), rfl, ⟨HQ9.out, HD9.out⟩, HR.out, HK.out, Lib.hid (by first | exact .inr ⟨rfl, rfl, rfl⟩ | exact .inl rfl)⟩
/-- The blocks that a round of the loop over the qids may write. -/
def GqG (g gX Z : Nat) : Nat → Prop := fun k => k = g ∨ k = gX ∨ Z < k
def GqJ (w : World) (B g N gX Z : Nat) (t : TellV) (Ad : Option Addr) (nd cd n : Nat) (S : S18) (Q : List QidV) (x : Value) (wr : World) : Prop :=
  ∃ (i m c : Nat) (A : Option Addr) (si : S18) (qi : List QidV), i + m = n ∧ x = .int .i64 i ∧ OwR wr (Z + 1) 23 3 A i c (qi.map qidC) ∧ Hid (gqS m si = S) ∧ Hid (qi ++ gqV m si = Q) ∧ GtW w wr B g N gX Z (tellC { t with qids := qi } A i c Ad nd cd) si.l si.e
set_option maxRecDepth 20000 in
set_option maxHeartbeats 8000000 in
theorem refGet_108 (w : World) (B g N b : Nat) (hgb : g < b) (hbw : b ≤ w.heap.size) (t : TellV) (s : S18) (Aq : Option Addr) (nq cq : Nat) (Ad : Option Addr) (nd cd : Nat) (h : RRd w B g N s.l s.e) (ho : GtOk w B b t Aq nq cq Ad nd) (hnil : Aq = none ∧ nq = 0 ∧ cq = 0 ∧ t.qids = []) :
    Calls Try.prog 50 #[.pointer (some ⟨g, 0, none⟩), .agg (tellC t Aq nq cq Ad nd cd).toArray, .int .u8 108] w (GtPost B g N b 108 t s Aq nq cq w) := by
  obtain ⟨rfl, rfl, rfl, hq0⟩ := hnil
  have HQ0 := Lib.hid hq0
  clear hq0
  have hgl := h.lt
  have hBg := h.low
  obtain ⟨W, hW⟩ : ∃ W, W = (w.alloc (.cells (tellC t none 0 0 Ad nd cd).toArray 29)).alloc (.cells zero18.toArray 29) := ⟨_, rfl⟩
  have hkW : Keeps (Is g) w W := by rw [hW]; exact ((Keeps.refl _ _).alloc _).alloc _
  have hbW : Below w.heap.size w W := by rw [hW]; exact ((Below.refl _ _).alloc (Nat.le_refl _) _).alloc (by simp) _
  obtain ⟨gX, hgX⟩ : ∃ x, x = w.heap.size := ⟨_, rfl⟩
  obtain ⟨Z, hZ'⟩ : ∃ x, x = (w.alloc (.cells (tellC t none 0 0 Ad nd cd).toArray 29)).heap.size := ⟨_, rfl⟩
  have hZ : Z = w.heap.size + 1 := by rw [hZ']; simp
  have hX0 : Blk W gX 29 (tellC t none 0 0 Ad nd cd) := by rw [hW, hgX]; exact (Blk.new w 29 (tellC t none 0 0 Ad nd cd)).up ((Below.refl _ _).alloc (Nat.le_refl _) _)
  have hZ0 : Blk W Z 29 zero18 := by rw [hW, hZ']; exact Blk.new (w.alloc (.cells (tellC t none 0 0 Ad nd cd).toArray 29)) 29 zero18
  have H0 := Lib.hid (show GtW w W B g N gX Z (tellC t none 0 0 Ad nd cd) s.l s.e from ⟨h.up hbW, hX0, hZ0, hkW, by omega⟩)
  have HO := Lib.hid ho
  clear h ho hX0 hZ0 hkW hbW
  go_enter Try.func50, Try.ntmps50
  go_upto_region 1 with fail
  rw [show (w.alloc (.cells (tellC t none 0 0 Ad nd cd).toArray 29)).alloc (.cells #[.int .i64 0, .int .i64 0, .int .i64 0, .int .i64 0, .int .i64 0, .int .i64 0, .string ⟨#[]⟩, .bool false, .int .i64 0, .int .i64 0, .slice none 0 0, .slice none 0 0, .bool false, .int .i64 0, .int .i64 0, .int .i64 0, .int .i64 0, .string ⟨#[]⟩] 29) = W from hW.symm, ← hZ, ← hgX]
  clear hW hgX hZ hZ'
  go_wp2_with fail
  refine (refNumber_any B g N s.l s.e 2 _ H0.out.r (by omega)).mono ?_
  rintro x w1 ⟨v, l1, e1, hv, hl1, he1, rfl, hR1, hK1⟩
  have hs1 : tk 2 s = ⟨l1, e1⟩ := by unfold tk; rw [hl1.out, he1.out]
  have hq1 : vl 2 s = v := by unfold vl; rw [hv.out]
  have b1 : v < 65536 := by have := vl_lt 2 s; rw [hq1] at this; simpa using this
  have hwr : IntKind.i64.wrap (v : Int) = v := IntWalk.i64_in _ (by omega)
  have H1 := Lib.hid (H0.out.call hR1 hK1)
  have HS1 := Lib.hid hs1
  have HQ1 := Lib.hid hq1
  clear hR1 hK1 hs1 hq1 hv hl1 he1
  by_cases hlong : 8 < v
  · have hli : (8 : Int) < v := by omega
    have j1 : (0 : Int) < v := by omega
    have j2 : 0 < v := by omega
    have c2 := RRd.c2 H1.out.r
    obtain ⟨_, _, hb⟩ := RRd.f2 H1.out.r
    have f2 := hb.free 2
    have H2 := Lib.hid H1.out.fail
    have HT := Lib.hid (show gtT 108 t s = t by show (if 8 < vl 2 s then _ else _) = _; rw [if_pos (by rw [HQ1.out]; exact hlong)])
    have HS := Lib.hid (show gtS 108 s = ⟨[], 4⟩ by show (if 8 < vl 2 s then _ else _) = _; rw [if_pos (by rw [HQ1.out]; exact hlong)])
    clear hb
    go_upto_region 25 with fail
    generalize w1.setCell ⟨g, 2, none⟩ (.int .i64 4) = w8 at H2 ⊢
    clear c2 f2
    have H8 := H2
    clear H2
    have HD8 := Lib.hid (HO.out.d.below (H8.out.k.is hBg (by omega)))
    go_wp2
    go_loopw [8] (fun x wr => x = .int .i64 (0 : Nat) ∧ wr = w8) (fun _ _ => 0)
    case atStart => exact ⟨rfl, rfl⟩
    case round =>
      obtain ⟨rfl, rfl⟩ := hrel
      have c2 := RRd.c2 H8.out.r
      go_upto_region 29 with fail
      clear c2
      have hXf := H8.out.x
      have hF := H8.out.z.setRow (tellC t none 0 0 Ad nd cd)
      have hks := keeps_setRow wr (g := Z) (tellC t none 0 0 Ad nd cd).toArray
      have hkz := hks.is (B := g + 1) (by have := H8.out.o; omega) (Nat.le_of_lt H8.out.z.lt)
      have HR := Lib.hid (H8.out.r.below (B' := g + 1) hkz (by omega))
      have HK := Lib.hid (H8.out.k.thenB (hks.is (B := w.heap.size) (by have := H8.out.o; omega) (Nat.le_of_lt H8.out.z.lt)))
      have HQ9 := Lib.hid (OwR.keeps HO.out.q HK.out (fun k hk e => by have e' : k = g := e; omega))
      have HD9 := Lib.hid (HD8.out.below (hkz.mono (by omega)))
      have HZ9 := Lib.hid H8.out.z
      clear hks hkz
      go_wp2_with first
        | (refine wpList_loadBlk rfl (.tmp 4) rfl rfl (by kernel_rfl) tellT_agg hXf ?_; simp only [Act.put, List.setIfInBounds_toArray, List.set_cons_succ, List.set_cons_zero])
        | (refine wpList_storeBlk rfl (.tmp 6) (.tmp 97) rfl rfl (tellC t none 0 0 Ad nd cd) rfl rfl (by kernel_rfl) HZ9.out rfl (by simp [tellC, Value.oneCell']) ?_)
      exact bodyPost_ret (v := .agg (tellC t none 0 0 Ad nd cd).toArray) (results_cellBlk Try.results50 rfl hF (by kernel_rfl) tellT_agg) rfl ⟨t, ⟨[], 4⟩, _, _, _, _, _, _, Lib.hid HT.out.symm, Lib.hid HS.out.symm, rfl, ⟨HQ9.out, HD9.out⟩, HR.out, HK.out, Lib.hid (by exact .inl rfl)⟩
  · have hli : ¬ (8 : Int) < v := by omega
    obtain ⟨S, hS⟩ : ∃ S, S = gqS v ⟨l1, e1⟩ := ⟨_, rfl⟩
    obtain ⟨Q, hQ⟩ : ∃ Q, Q = gqV v ⟨l1, e1⟩ := ⟨_, rfl⟩
    have HT := Lib.hid (show ∀ qi, qi = Q → ({ t with qids := qi } : TellV) = gtT 108 t s by intro qi hqi; show _ = (if 8 < vl 2 s then _ else _); rw [HQ1.out, if_neg hlong, HS1.out, hqi, hQ])
    have HS := Lib.hid (show ∀ si, si = S → si = gtS 108 s by intro si hsi; show _ = (if 8 < vl 2 s then _ else _); rw [HQ1.out, if_neg hlong, HS1.out, hsi, hS])
    have HSS := Lib.hid hS
    have HQQ := Lib.hid hQ
    clear hS hQ
    go_wp2
    go_loopw [8] (fun x wr => GqJ w B g N gX Z t Ad nd cd v S Q x wr) (fun x _ => v - (intOf x).toNat)
    case atStart => exact ⟨0, v, 0, none, ⟨l1, e1⟩, [], by omega, rfl, OwR.nil _ _ _ _, Lib.hid HSS.out.symm, Lib.hid HQQ.out.symm, H1.out⟩
    case round =>
      obtain ⟨i, m, c, A, si, qi, him, rfl, ho, hs, hq, hw⟩ := hrel
      have c2 := RRd.c2 hw.r
      by_cases hlt : i < v
      · have j1 : (i : Int) < v := by omega
        by_cases he : si.e = 0
        · obtain ⟨m, rfl⟩ : ∃ m', m = m' + 1 := ⟨m - 1, by omega⟩
          have t0 : (si.e == 0) = true := by rw [he]; rfl
          have HG := Lib.hid hw.drew
          have HOi := Lib.hid ho.drew
          have hZ1 := hw.o
          have hzl := hw.z.lt
          have hew := Lib.hid he
          clear hw ho he
          go_upto_region 28 with fail
          clear c2 t0
          have x10 := HG.out.x.cell 10 _ rfl
          refine wp_region_tr (GqG g gX Z) (.t 0 (.t 2 (.b 1 (.s 3 (.s 4 (.s 5 (.t 6 (.s 7 .nil))))) 3 (.b 1 (.s 4 (.s 5 (.t 6 (.s 7 .nil)))) 4 (.s 1 (.s 5 (.t 6 (.s 7 .nil)))))))) (by kernel_rfl) (by kernel_rfl) ?_
          repeat (refine tr_take (by simp only [List.getElem?_toArray, List.getElem?_cons_succ, List.getElem?_cons_zero]; exact rfl) ?_; go_big_quiet_step (fail); refine wpQuiet_nil ?_)
          refine tr_both (by simp only [List.getElem?_toArray, List.getElem?_cons_succ, List.getElem?_cons_zero]; exact rfl) (by simp only [List.getElem?_toArray, List.getElem?_cons_succ, List.getElem?_cons_zero]; exact rfl) ?_ ?_
          · go_wp2
            refine Solo.mk (Keeps.refl _ _) ?_
            clear x10
            refine tr_solo (by simp only [List.getElem?_toArray, List.getElem?_cons_succ, List.getElem?_cons_zero]; exact rfl) ?_
            go_wp2_with fail
            refine (refQid_any B g N si _ HG.out.r).mono ?_
            rintro x w2 ⟨⟨qd, qv, qp⟩, s2, hq2, hs2, rfl, hR1, hK1⟩
            have HG2 := Lib.hid (HG.out.call hR1 hK1)
            have HO2 := Lib.hid (OwR.keeps HOi.out hK1 (fun k hk e => by have e' : k = g := e; have := HG.out.o; omega))
            have Hsrc := Lib.hid (Src.oneR (P := Try.prog) w2 24 23 Try.underlying24 [.bool qd, .int .i64 qv, .int .i64 qp] rfl (by simp [Value.oneCell']) #[.bool qd, .int .i64 qv, .int .i64 qp] rfl 23)
            have hga : Z + 1 ≤ (w2.alloc (.cells #[.bool qd, .int .i64 qv, .int .i64 qp] 23)).heap.size := by have := HG2.out.z.lt; simp; omega
            have hbs : Below (Z + 1) w2 (w2.alloc (.cells #[.bool qd, .int .i64 qv, .int .i64 qp] 23)) := (Below.refl _ _).alloc HG2.out.z.lt _
            have HS2 := Lib.hid (show gqS m s2 = S by rw [hs2.out, ← hs.out]; exact (if_pos hew.out).symm)
            have HV2 := Lib.hid (show (qi ++ [(⟨qd, qv, qp⟩ : QidV)]) ++ gqV m s2 = Q by rw [hs2.out, hq2.out, ← hq.out, List.append_assoc]; congr 1; exact (if_pos hew.out).symm)
            have hkc : Keeps (GqG g gX Z) wr.drew w2 := hK1.mono (fun k _ e => .inl e)
            clear hR1 hK1 hq2 hs2
            go_wp2
            refine Solo.mk hkc ?_
            clear hkc
            refine tr_solo (by simp only [List.getElem?_toArray, List.getElem?_cons_succ, List.getElem?_cons_zero]; exact rfl) ?_
            go_wp2
            refine Solo.up ((Below.refl _ _).alloc (Nat.le_refl _) _) ?_
            refine tr_solo (by simp only [List.getElem?_toArray, List.getElem?_cons_succ, List.getElem?_cons_zero]; exact rfl) ?_
            go_wp2_with (at_builtin; go_must (refine wpList_appendR qidsElemS rfl (.tmp 91) (.tmp 94) 24 rfl (Z + 1) A i c (qi.map qidC) rfl (HO2.out.alloc _) _ rfl [.bool qd, .int .i64 qv, .int .i64 qp] rfl Hsrc.out (by omega) (by omega) hga ?_); intro A3 n3 c3 l3 w3 hl3 hn3 hown3 hb3 hg3; obtain rfl : n3 = i + 1 := hn3.out)
            have hb4 : Below (Z + 1) w2 w3 := hbs.trans hb3
            refine Solo.mk (keeps_below hb3 (fun k hk => by have : ¬ (k = g ∨ k = gX ∨ Z < k) := hk; omega)) ?_
            repeat (refine tr_take (by simp only [List.getElem?_toArray, List.getElem?_cons_succ, List.getElem?_cons_zero]; exact rfl) ?_; go_big_quiet_step (fail); refine wpQuiet_nil ?_)
            refine tr_solo (by simp only [List.getElem?_toArray, List.getElem?_cons_succ, List.getElem?_cons_zero]; exact rfl) ?_
            have h4 := HG2.out.up hb4
            have x4 := h4.x.cell 10 _ rfl
            have f4 := h4.x.free 10
            have hl4 : l3 = (qi ++ [(⟨qd, qv, qp⟩ : QidV)]).map qidC := by rw [hl3.out, List.map_append]; rfl
            rw [hl4] at hown3
            have H5 := Lib.hid (show GtW w (w3.setCell ⟨gX, 10, none⟩ (.slice A3 (i + 1) c3)) B g N gX Z (tellC ({ t with qids := (qi ++ [(⟨qd, qv, qp⟩ : QidV)]) } : TellV) A3 (i + 1) c3 Ad nd cd) s2.l s2.e from h4.set 10 (.slice A3 (i + 1) c3))
            have HO5 := Lib.hid (OwR.keeps hown3 ((Keeps.refl (Is gX) w3).setCell (p := ⟨gX, 10, none⟩) (.inl rfl) (.slice A3 (i + 1) c3)) (fun k hk e => by have e' : k = gX := e; have := HG2.out.o; omega))
            clear hl3 hl4 hown3 hb3 hb4 h4
            go_wp2
            refine Solo.mk ((Keeps.refl (GqG g gX Z) _).setCell (p := ⟨gX, 10, none⟩) (.inl (.inr (.inl rfl))) _) ?_
            refine tr_end ?_
            generalize w3.setCell ⟨gX, 10, none⟩ (.slice A3 (i + 1) c3) = w5 at H5 HO5 ⊢
            clear x4 f4
            go_wp2
            go_roundw
            case rel => exact ⟨i + 1, m, c3, A3, s2, qi ++ [⟨qd, qv, qp⟩], by omega, by go_num, HO5.out, Lib.hid HS2.out, Lib.hid HV2.out, H5.out⟩
            case measure => simp [intOf]; omega
          · clear x10
            go_wp2_with fail
            refine (refQid_any B g N si _ HG.out.r).mono ?_
            rintro x w2 ⟨⟨qd, qv, qp⟩, s2, hq2, hs2, rfl, hR1, hK1⟩
            have HG2 := Lib.hid (HG.out.call hR1 hK1)
            have HO2 := Lib.hid (OwR.keeps HOi.out hK1 (fun k hk e => by have e' : k = g := e; have := HG.out.o; omega))
            have Hsrc := Lib.hid (Src.oneR (P := Try.prog) w2 24 23 Try.underlying24 [.bool qd, .int .i64 qv, .int .i64 qp] rfl (by simp [Value.oneCell']) #[.bool qd, .int .i64 qv, .int .i64 qp] rfl 23)
            have hga : Z + 1 ≤ (w2.alloc (.cells #[.bool qd, .int .i64 qv, .int .i64 qp] 23)).heap.size := by have := HG2.out.z.lt; simp; omega
            have hbs : Below (Z + 1) w2 (w2.alloc (.cells #[.bool qd, .int .i64 qv, .int .i64 qp] 23)) := (Below.refl _ _).alloc HG2.out.z.lt _
            have HS2 := Lib.hid (show gqS m s2 = S by rw [hs2.out, ← hs.out]; exact (if_pos hew.out).symm)
            have HV2 := Lib.hid (show (qi ++ [(⟨qd, qv, qp⟩ : QidV)]) ++ gqV m s2 = Q by rw [hs2.out, hq2.out, ← hq.out, List.append_assoc]; congr 1; exact (if_pos hew.out).symm)
            have hkc : Keeps (GqG g gX Z) wr.drew w2 := hK1.mono (fun k _ e => .inl e)
            clear hR1 hK1 hq2 hs2
            go_wp2
            refine Solo.mk hkc ?_
            clear hkc
            have x10 := HG2.out.x.cell 10 _ rfl
            refine tr_both (by simp only [List.getElem?_toArray, List.getElem?_cons_succ, List.getElem?_cons_zero]; exact rfl) (by simp only [List.getElem?_toArray, List.getElem?_cons_succ, List.getElem?_cons_zero]; exact rfl) ?_ ?_
            · go_wp2
              refine Solo.mk (Keeps.refl _ _) ?_
              clear x10
              refine tr_solo (by simp only [List.getElem?_toArray, List.getElem?_cons_succ, List.getElem?_cons_zero]; exact rfl) ?_
              go_wp2
              refine Solo.up ((Below.refl _ _).alloc (Nat.le_refl _) _) ?_
              refine tr_solo (by simp only [List.getElem?_toArray, List.getElem?_cons_succ, List.getElem?_cons_zero]; exact rfl) ?_
              go_wp2_with (at_builtin; go_must (refine wpList_appendR qidsElemS rfl (.tmp 91) (.tmp 94) 24 rfl (Z + 1) A i c (qi.map qidC) rfl (HO2.out.alloc _) _ rfl [.bool qd, .int .i64 qv, .int .i64 qp] rfl Hsrc.out (by omega) (by omega) hga ?_); intro A3 n3 c3 l3 w3 hl3 hn3 hown3 hb3 hg3; obtain rfl : n3 = i + 1 := hn3.out)
              have hb4 : Below (Z + 1) w2 w3 := hbs.trans hb3
              refine Solo.mk (keeps_below hb3 (fun k hk => by have : ¬ (k = g ∨ k = gX ∨ Z < k) := hk; omega)) ?_
              repeat (refine tr_take (by simp only [List.getElem?_toArray, List.getElem?_cons_succ, List.getElem?_cons_zero]; exact rfl) ?_; go_big_quiet_step (fail); refine wpQuiet_nil ?_)
              refine tr_solo (by simp only [List.getElem?_toArray, List.getElem?_cons_succ, List.getElem?_cons_zero]; exact rfl) ?_
              have h4 := HG2.out.up hb4
              have x4 := h4.x.cell 10 _ rfl
              have f4 := h4.x.free 10
              have hl4 : l3 = (qi ++ [(⟨qd, qv, qp⟩ : QidV)]).map qidC := by rw [hl3.out, List.map_append]; rfl
              rw [hl4] at hown3
              have H5 := Lib.hid (show GtW w (w3.setCell ⟨gX, 10, none⟩ (.slice A3 (i + 1) c3)) B g N gX Z (tellC ({ t with qids := (qi ++ [(⟨qd, qv, qp⟩ : QidV)]) } : TellV) A3 (i + 1) c3 Ad nd cd) s2.l s2.e from h4.set 10 (.slice A3 (i + 1) c3))
              have HO5 := Lib.hid (OwR.keeps hown3 ((Keeps.refl (Is gX) w3).setCell (p := ⟨gX, 10, none⟩) (.inl rfl) (.slice A3 (i + 1) c3)) (fun k hk e => by have e' : k = gX := e; have := HG2.out.o; omega))
              clear hl3 hl4 hown3 hb3 hb4 h4
              go_wp2
              refine Solo.mk ((Keeps.refl (GqG g gX Z) _).setCell (p := ⟨gX, 10, none⟩) (.inl (.inr (.inl rfl))) _) ?_
              refine tr_end ?_
              generalize w3.setCell ⟨gX, 10, none⟩ (.slice A3 (i + 1) c3) = w5 at H5 HO5 ⊢
              clear x4 f4
              go_wp2
              go_roundw
              case rel => exact ⟨i + 1, m, c3, A3, s2, qi ++ [⟨qd, qv, qp⟩], by omega, by go_num, HO5.out, Lib.hid HS2.out, Lib.hid HV2.out, H5.out⟩
              case measure => simp [intOf]; omega
            · clear x10
              go_wp2
              refine Solo.up ((Below.refl _ _).alloc (Nat.le_refl _) _) ?_
              have x10 := (HG2.out.up hbs).x.cell 10 _ rfl
              refine tr_solo (by simp only [List.getElem?_toArray, List.getElem?_cons_succ, List.getElem?_cons_zero]; exact rfl) ?_
              go_wp2
              refine Solo.mk (Keeps.refl _ _) ?_
              clear x10
              refine tr_solo (by simp only [List.getElem?_toArray, List.getElem?_cons_succ, List.getElem?_cons_zero]; exact rfl) ?_
              go_wp2_with (at_builtin; go_must (refine wpList_appendR qidsElemS rfl (.tmp 91) (.tmp 94) 24 rfl (Z + 1) A i c (qi.map qidC) rfl (HO2.out.alloc _) _ rfl [.bool qd, .int .i64 qv, .int .i64 qp] rfl Hsrc.out (by omega) (by omega) hga ?_); intro A3 n3 c3 l3 w3 hl3 hn3 hown3 hb3 hg3; obtain rfl : n3 = i + 1 := hn3.out)
              have hb4 : Below (Z + 1) w2 w3 := hbs.trans hb3
              refine Solo.mk (keeps_below hb3 (fun k hk => by have : ¬ (k = g ∨ k = gX ∨ Z < k) := hk; omega)) ?_
              repeat (refine tr_take (by simp only [List.getElem?_toArray, List.getElem?_cons_succ, List.getElem?_cons_zero]; exact rfl) ?_; go_big_quiet_step (fail); refine wpQuiet_nil ?_)
              refine tr_solo (by simp only [List.getElem?_toArray, List.getElem?_cons_succ, List.getElem?_cons_zero]; exact rfl) ?_
              have h4 := HG2.out.up hb4
              have x4 := h4.x.cell 10 _ rfl
              have f4 := h4.x.free 10
              have hl4 : l3 = (qi ++ [(⟨qd, qv, qp⟩ : QidV)]).map qidC := by rw [hl3.out, List.map_append]; rfl
              rw [hl4] at hown3
              have H5 := Lib.hid (show GtW w (w3.setCell ⟨gX, 10, none⟩ (.slice A3 (i + 1) c3)) B g N gX Z (tellC ({ t with qids := (qi ++ [(⟨qd, qv, qp⟩ : QidV)]) } : TellV) A3 (i + 1) c3 Ad nd cd) s2.l s2.e from h4.set 10 (.slice A3 (i + 1) c3))
              have HO5 := Lib.hid (OwR.keeps hown3 ((Keeps.refl (Is gX) w3).setCell (p := ⟨gX, 10, none⟩) (.inl rfl) (.slice A3 (i + 1) c3)) (fun k hk e => by have e' : k = gX := e; have := HG2.out.o; omega))
              clear hl3 hl4 hown3 hb3 hb4 h4
              go_wp2
              refine Solo.mk ((Keeps.refl (GqG g gX Z) _).setCell (p := ⟨gX, 10, none⟩) (.inl (.inr (.inl rfl))) _) ?_
              refine tr_end ?_
              generalize w3.setCell ⟨gX, 10, none⟩ (.slice A3 (i + 1) c3) = w5 at H5 HO5 ⊢
              clear x4 f4
              go_wp2
              go_roundw
              case rel => exact ⟨i + 1, m, c3, A3, s2, qi ++ [⟨qd, qv, qp⟩], by omega, by go_num, HO5.out, Lib.hid HS2.out, Lib.hid HV2.out, H5.out⟩
              case measure => simp [intOf]; omega
        · have t0 : (si.e == 0) = false := by rw [beq_eq_false_iff_ne]; exact he
          have H8 := Lib.hid hw
          have HQ8 := Lib.hid ho
          have HD8 := Lib.hid (HO.out.d.below (hw.k.is hBg (by omega)))
          have HV := Lib.hid (show qi = Q by rw [← hq.out, gqV_bad m si he, List.append_nil])
          have HE := Lib.hid (show si = S by rw [← hs.out, gqS_bad m si he])
          clear he
          clear hw ho hs hq
          generalize wr = w8 at H8 HQ8 HD8 c2 ⊢
          go_upto_region 29 with fail
          clear c2
          clear t0
          have hXf := H8.out.x
          have hF := H8.out.z.setRow (tellC ({ t with qids := qi } : TellV) A i c Ad nd cd)
          have hks := keeps_setRow w8 (g := Z) (tellC ({ t with qids := qi } : TellV) A i c Ad nd cd).toArray
          have hkz := hks.is (B := g + 1) (by have := H8.out.o; omega) (Nat.le_of_lt H8.out.z.lt)
          have HR := Lib.hid (H8.out.r.below (B' := g + 1) hkz (by omega))
          have HK := Lib.hid (H8.out.k.thenB (hks.is (B := w.heap.size) (by have := H8.out.o; omega) (Nat.le_of_lt H8.out.z.lt)))
          have HQ9 := Lib.hid ((OwR.keeps HQ8.out hks (fun k hk e => by have e' : k = Z := e; omega)).lower (show b ≤ Z + 1 by have := H8.out.o; omega))
          have HD9 := Lib.hid (HD8.out.below (hkz.mono (by omega)))
          have HZ9 := Lib.hid H8.out.z
          clear hks hkz
          go_wp2_with first
            | (refine wpList_loadBlk rfl (.tmp 4) rfl rfl (by kernel_rfl) tellT_agg hXf ?_; simp only [Act.put, List.setIfInBounds_toArray, List.set_cons_succ, List.set_cons_zero])
            | (refine wpList_storeBlk rfl (.tmp 6) (.tmp 97) rfl rfl (tellC ({ t with qids := qi } : TellV) A i c Ad nd cd) rfl rfl (by kernel_rfl) HZ9.out rfl (by simp [tellC, Value.oneCell']) ?_)
          exact bodyPost_ret (v := .agg (tellC ({ t with qids := qi } : TellV) A i c Ad nd cd).toArray) (results_cellBlk Try.results50 rfl hF (by kernel_rfl) tellT_agg) rfl ⟨({ t with qids := qi } : TellV), si, _, _, _, _, _, _, Lib.hid (HT.out _ HV.out), Lib.hid (HS.out _ HE.out), rfl, ⟨HQ9.out, HD9.out⟩, HR.out, HK.out, Lib.hid (by exact .inl rfl)⟩
      · obtain rfl : i = v := by omega
        obtain rfl : m = 0 := by omega
        have j1 : ¬ (i : Int) < i := by omega
        have H8 := Lib.hid hw
        have HQ8 := Lib.hid ho
        have HD8 := Lib.hid (HO.out.d.below (hw.k.is hBg (by omega)))
        have HV := Lib.hid (show qi = Q by rw [← hq.out]; simp [gqV])
        have HE := Lib.hid (show si = S by rw [← hs.out]; rfl)
        clear hw ho hs hq
        generalize wr = w8 at H8 HQ8 HD8 c2 ⊢
        go_upto_region 29 with fail
        clear c2
        have hXf := H8.out.x
        have hF := H8.out.z.setRow (tellC ({ t with qids := qi } : TellV) A i c Ad nd cd)
        have hks := keeps_setRow w8 (g := Z) (tellC ({ t with qids := qi } : TellV) A i c Ad nd cd).toArray
        have hkz := hks.is (B := g + 1) (by have := H8.out.o; omega) (Nat.le_of_lt H8.out.z.lt)
        have HR := Lib.hid (H8.out.r.below (B' := g + 1) hkz (by omega))
        have HK := Lib.hid (H8.out.k.thenB (hks.is (B := w.heap.size) (by have := H8.out.o; omega) (Nat.le_of_lt H8.out.z.lt)))
        have HQ9 := Lib.hid ((OwR.keeps HQ8.out hks (fun k hk e => by have e' : k = Z := e; omega)).lower (show b ≤ Z + 1 by have := H8.out.o; omega))
        have HD9 := Lib.hid (HD8.out.below (hkz.mono (by omega)))
        have HZ9 := Lib.hid H8.out.z
        clear hks hkz
        go_wp2_with first
          | (refine wpList_loadBlk rfl (.tmp 4) rfl rfl (by kernel_rfl) tellT_agg hXf ?_; simp only [Act.put, List.setIfInBounds_toArray, List.set_cons_succ, List.set_cons_zero])
          | (refine wpList_storeBlk rfl (.tmp 6) (.tmp 97) rfl rfl (tellC ({ t with qids := qi } : TellV) A i c Ad nd cd) rfl rfl (by kernel_rfl) HZ9.out rfl (by simp [tellC, Value.oneCell']) ?_)
        exact bodyPost_ret (v := .agg (tellC ({ t with qids := qi } : TellV) A i c Ad nd cd).toArray) (results_cellBlk Try.results50 rfl hF (by kernel_rfl) tellT_agg) rfl ⟨({ t with qids := qi } : TellV), si, _, _, _, _, _, _, Lib.hid (HT.out _ HV.out), Lib.hid (HS.out _ HE.out), rfl, ⟨HQ9.out, HD9.out⟩, HR.out, HK.out, Lib.hid (by exact .inl rfl)⟩
theorem refGet_any (f : Int) (hf : f = 45 ∨ f = 122 ∨ f = 110 ∨ f = 113 ∨ f = 101 ∨ f = 105 ∨ f = 100 ∨ f = 99 ∨ f = 115 ∨ f = 108) (w : World) (B g N b : Nat) (hgb : g < b) (hbw : b ≤ w.heap.size) (t : TellV) (s : S18) (Aq : Option Addr) (nq cq : Nat) (Ad : Option Addr) (nd cd : Nat) (h : RRd w B g N s.l s.e) (ho : GtOk w B b t Aq nq cq Ad nd) (hnil : f = 108 → Aq = none ∧ nq = 0 ∧ cq = 0 ∧ t.qids = []) :
    Calls Try.prog 50 #[.pointer (some ⟨g, 0, none⟩), .agg (tellC t Aq nq cq Ad nd cd).toArray, .int .u8 f] w (GtPost B g N b f t s Aq nq cq w) := by
  rcases hf with rfl | rfl | rfl | rfl | rfl | rfl | rfl | rfl | rfl | rfl
  · exact refGet_45 w B g N b hgb hbw t s Aq nq cq Ad nd cd h ho
  · exact refGet_122 w B g N b hgb hbw t s Aq nq cq Ad nd cd h ho
  · exact refGet_110 w B g N b hgb hbw t s Aq nq cq Ad nd cd h ho
  · exact refGet_113 w B g N b hgb hbw t s Aq nq cq Ad nd cd h ho
  · exact refGet_101 w B g N b hgb hbw t s Aq nq cq Ad nd cd h ho
  · exact refGet_105 w B g N b hgb hbw t s Aq nq cq Ad nd cd h ho
  · exact refGet_100 w B g N b hgb hbw t s Aq nq cq Ad nd cd h ho
  · exact refGet_99 w B g N b hgb hbw t s Aq nq cq Ad nd cd h ho
  · exact refGet_115 w B g N b hgb hbw t s Aq nq cq Ad nd cd h ho
  · exact refGet_108 w B g N b hgb hbw t s Aq nq cq Ad nd cd h ho (hnil rfl)
end Go.Proofs.Ytoplkglnjgllnaa
