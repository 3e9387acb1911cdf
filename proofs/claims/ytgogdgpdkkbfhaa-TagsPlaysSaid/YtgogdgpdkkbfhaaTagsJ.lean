/-
  Layer 22: the reference's Ask; like.
-/
import Derived.Test.YtgogdgpdkkbfhaaTagsI
namespace Go.Proofs.Ytgogdgpdkkbfhaa
open Go.RowKit
set_option linter.unusedVariables false
set_option linter.unusedSimpArgs false

/-- The request that is put. -/
def askO (a : AskV) : AskV := { goodV a with tag := (goodV a).tag % 10 }
theorem good_tag (a : AskV) : 0 ≤ (goodV a).tag ∧ (goodV a).tag < 65536 := by
  have h1 := Int.emod_nonneg (up0 a.tag) (show (65536 : Int) ≠ 0 by omega)
  have h2 := Int.emod_lt_of_pos (up0 a.tag) (show (0 : Int) < 65536 by omega)
  exact ⟨h1, h2⟩
def AskPost (a : AskV) (w : World) (e : Ending) (w' : World) : Prop :=
  ∃ x An nn cn Ad nd cd, Hid (x = askO a) ∧ e = .returned (.agg (askC x An nn cn Ad nd cd).toArray) ∧ OwV w' w.heap.size 9 An nn cn (sv x.names) ∧ OwB w' w.heap.size Ad nd cd x.data ∧ Below w.heap.size w w'

set_option maxRecDepth 100000 in
set_option maxHeartbeats 4000000 in
theorem refAsk_any (do_ num : Int) (kind tag fid nfid otag msize mode perm off count size : Int) (name : List UInt8) (names : List (List UInt8)) (data : List UInt8) (An : Option Addr) (nn cn : Nat) (Ad : Option Addr) (nd cd : Nat) (w : World)
    (hok : AskOk w w.heap.size ⟨kind, tag, fid, nfid, otag, msize, mode, perm, off, count, size, name, names, data⟩ An nn cn Ad nd cd) :
    Calls Try.prog 21 #[.agg #[.int .i64 do_, .int .i64 num, .int .i64 kind, .int .i64 tag, .int .i64 fid, .int .i64 nfid, .int .i64 otag, .int .i64 msize, .int .i64 mode, .int .i64 perm, .int .i64 off, .int .i64 count, .string (st name), .slice An nn cn, .int .i64 size, .slice Ad nd cd]] w (AskPost ⟨kind, tag, fid, nfid, otag, msize, mode, perm, off, count, size, name, names, data⟩ w) := by
  have hA0 := Blk.new w 47 [.int .i64 do_, .int .i64 num, .int .i64 kind, .int .i64 tag, .int .i64 fid, .int .i64 nfid, .int .i64 otag, .int .i64 msize, .int .i64 mode, .int .i64 perm, .int .i64 off, .int .i64 count, .string (st name), .slice An nn cn, .int .i64 size, .slice Ad nd cd]
  have hZ0 := Blk.new (w.alloc (.cells #[.int .i64 do_, .int .i64 num, .int .i64 kind, .int .i64 tag, .int .i64 fid, .int .i64 nfid, .int .i64 otag, .int .i64 msize, .int .i64 mode, .int .i64 perm, .int .i64 off, .int .i64 count, .string (st name), .slice An nn cn, .int .i64 size, .slice Ad nd cd] 47)) 32 [.int .i64 0, .int .i64 0, .int .i64 0, .int .i64 0, .int .i64 0, .int .i64 0, .int .i64 0, .int .i64 0, .int .i64 0, .int .i64 0, .string ByteArray.empty, .slice none 0 0, .int .i64 0, .slice none 0 0]
  obtain ⟨W, hW⟩ : ∃ x, x = (w.alloc (.cells #[.int .i64 do_, .int .i64 num, .int .i64 kind, .int .i64 tag, .int .i64 fid, .int .i64 nfid, .int .i64 otag, .int .i64 msize, .int .i64 mode, .int .i64 perm, .int .i64 off, .int .i64 count, .string (st name), .slice An nn cn, .int .i64 size, .slice Ad nd cd] 47)).alloc (.cells #[.int .i64 0, .int .i64 0, .int .i64 0, .int .i64 0, .int .i64 0, .int .i64 0, .int .i64 0, .int .i64 0, .int .i64 0, .int .i64 0, .string ByteArray.empty, .slice none 0 0, .int .i64 0, .slice none 0 0] 32) := ⟨_, rfl⟩
  have hA : Blk W w.heap.size 47 [.int .i64 do_, .int .i64 num, .int .i64 kind, .int .i64 tag, .int .i64 fid, .int .i64 nfid, .int .i64 otag, .int .i64 msize, .int .i64 mode, .int .i64 perm, .int .i64 off, .int .i64 count, .string (st name), .slice An nn cn, .int .i64 size, .slice Ad nd cd] := by rw [hW]; exact hA0.alloc _
  have hZ : Blk W (w.heap.size + 1) 32 [.int .i64 0, .int .i64 0, .int .i64 0, .int .i64 0, .int .i64 0, .int .i64 0, .int .i64 0, .int .i64 0, .int .i64 0, .int .i64 0, .string ByteArray.empty, .slice none 0 0, .int .i64 0, .slice none 0 0] := by rw [hW]; simpa using hZ0
  have hb : Below w.heap.size w W := by rw [hW]; exact ((Below.refl _ _).alloc (Nat.le_refl _) _).alloc (by simp) _
  have hW3 : W = (w.alloc (.cells #[.int .i64 do_, .int .i64 num, .int .i64 kind, .int .i64 tag, .int .i64 fid, .int .i64 nfid, .int .i64 otag, .int .i64 msize, .int .i64 mode, .int .i64 perm, .int .i64 off, .int .i64 count, .string (st name), .slice An nn cn, .int .i64 size, .slice Ad nd cd] 47)).alloc (.cells #[.int .i64 0, .int .i64 0, .int .i64 0, .int .i64 0, .int .i64 0, .int .i64 0, .int .i64 0, .int .i64 0, .int .i64 0, .int .i64 0, .string ⟨#[]⟩, .slice none 0 0, .int .i64 0, .slice none 0 0] 32) := hW
  obtain ⟨gZ, hgZ⟩ : ∃ x, x = w.heap.size + 1 := ⟨_, rfl⟩
  rw [← hgZ] at hZ
  have gA_lt : w.heap.size < gZ := by omega
  have HZ := Lib.hid hZ
  have HB := Lib.hid hb
  have HOK := Lib.hid (hok.up hb)
  have GZ := Lib.hid hgZ
  have hgW := hZ.lt
  have a0 := hA.cell 0 _ rfl
  have a1 := hA.cell 1 _ rfl
  have a2 := hA.cell 2 _ rfl
  have a3 := hA.cell 3 _ rfl
  have a4 := hA.cell 4 _ rfl
  have a5 := hA.cell 5 _ rfl
  have a6 := hA.cell 6 _ rfl
  have a7 := hA.cell 7 _ rfl
  have a8 := hA.cell 8 _ rfl
  have a9 := hA.cell 9 _ rfl
  have a10 := hA.cell 10 _ rfl
  have a11 := hA.cell 11 _ rfl
  have a12 := hA.cell 12 _ rfl
  have a13 := hA.cell 13 _ rfl
  have a14 := hA.cell 14 _ rfl
  have a15 := hA.cell 15 _ rfl
  clear hA0 hZ0 hA hZ hW hb hok hgZ
  go_enter Try.func21, Try.ntmps21
  go_upto_region 1 with fail
  rw [← hW3, ← GZ.out]
  clear hW3
  go_wp2_with fail
  refine (good_ok ⟨kind, tag, fid, nfid, otag, msize, mode, perm, off, count, size, name, names, data⟩ An nn cn Ad nd cd _ (by have := HOK.out; exact { this with names := this.names.more HB.out.size, data := this.data.more HB.out.size })).mono ?_
  rintro e w2 ⟨y, Xn, xn, xc, Xd, xd, xe, hy, rfl, hXN, hXD, hb2⟩
  have htg := good_tag ⟨kind, tag, fid, nfid, otag, msize, mode, perm, off, count, size, name, names, data⟩
  rw [← hy.out] at htg
  obtain ⟨q0, q1, q2, q3, q4, q5, q6, q7, q8, q9, q10, qn, qns, qd⟩ := y
  obtain ⟨tg0, tg1⟩ : 0 ≤ q1 ∧ q1 < 65536 := htg
  simp only [askC]
  obtain ⟨v, hv⟩ : ∃ v, v = q1 % 10 := ⟨_, rfl⟩
  have hmod : q1.tmod 10 = v := by rw [hv, Int.tmod_eq_emod_of_nonneg tg0]
  have HV := Lib.hid hv
  have hBz := (Blk.new w2 32 [.int .i64 0, .int .i64 0, .int .i64 0, .int .i64 0, .int .i64 0, .int .i64 0, .int .i64 0, .int .i64 0, .int .i64 0, .int .i64 0, .string ⟨#[]⟩, .slice none 0 0, .int .i64 0, .slice none 0 0])
  have hbS : Below w2.heap.size w2 ((w2.alloc (.cells #[.int .i64 0, .int .i64 0, .int .i64 0, .int .i64 0, .int .i64 0, .int .i64 0, .int .i64 0, .int .i64 0, .int .i64 0, .int .i64 0, .string ⟨#[]⟩, .slice none 0 0, .int .i64 0, .slice none 0 0] 32)).setRow w2.heap.size #[.int .i64 q0, .int .i64 q1, .int .i64 q2, .int .i64 q3, .int .i64 q4, .int .i64 q5, .int .i64 q6, .int .i64 q7, .int .i64 q8, .int .i64 q9, .string (st qn), .slice Xn xn xc, .int .i64 q10, .slice Xd xd xe]) := below_setRow ((Below.refl _ _).alloc (Nat.le_refl _) _) (Nat.le_refl _) _
  have hX := hBz.setRow [.int .i64 q0, .int .i64 q1, .int .i64 q2, .int .i64 q3, .int .i64 q4, .int .i64 q5, .int .i64 q6, .int .i64 q7, .int .i64 q8, .int .i64 q9, .string (st qn), .slice Xn xn xc, .int .i64 q10, .slice Xd xd xe]
  obtain ⟨gX, hgX⟩ : ∃ g, g = w2.heap.size := ⟨_, rfl⟩
  have hgX1 : gZ < gX := by rw [hgX]; exact Nat.lt_of_lt_of_le hgW hb2.size
  have HZ2 := Lib.hid (HZ.out.up hb2)
  clear hv a0 a1 a2 a3 a4 a5 a6 a7 a8 a9 a10 a11 a12 a13 a14 a15
  go_upto_region 2 with (refine wpList_storeBlk rfl (.tmp 3) (.tmp 6) rfl rfl [.int .i64 q0, .int .i64 q1, .int .i64 q2, .int .i64 q3, .int .i64 q4, .int .i64 q5, .int .i64 q6, .int .i64 q7, .int .i64 q8, .int .i64 q9, .string (st qn), .slice Xn xn xc, .int .i64 q10, .slice Xd xd xe] rfl rfl (by kernel_rfl) hBz rfl (by simp [Value.oneCell']) ?_)
  clear hBz
  generalize (w2.alloc (.cells #[.int .i64 0, .int .i64 0, .int .i64 0, .int .i64 0, .int .i64 0, .int .i64 0, .int .i64 0, .int .i64 0, .int .i64 0, .int .i64 0, .string ⟨#[]⟩, .slice none 0 0, .int .i64 0, .slice none 0 0] 32)).setRow w2.heap.size #[.int .i64 q0, .int .i64 q1, .int .i64 q2, .int .i64 q3, .int .i64 q4, .int .i64 q5, .int .i64 q6, .int .i64 q7, .int .i64 q8, .int .i64 q9, .string (st qn), .slice Xn xn xc, .int .i64 q10, .slice Xd xd xe] = w3 at hbS hX
  rw [← hgX] at hX ⊢
  have hgX2 : w2.heap.size ≤ gX := by omega
  clear hgX
  have hXN3 := hXN.up hbS
  have hXD3 := hXD.up hbS
  have hZ3 := HZ2.out.up hbS
  have HB3 := Lib.hid (HB.out.trans ((Up.trans hb2 hbS).mono HB.out.size))
  have ku := hX.cell 1 _ rfl
  have kf := hX.free 1
  have hX4 := hX.set 1 (.int .i64 v)
  have hK4 : Keeps (Is gX) w3 (w3.setCell ⟨gX, 1, none⟩ (.int .i64 v)) := (Keeps.refl (Is gX) w3).setCell (p := ⟨gX, 1, none⟩) (.inl rfl) _
  have hZ4 := hZ3.keeps hK4 (show ¬ gZ = gX by omega)
  have hXlt := hX.lt
  have hB4 := HB3.out.trans (hK4.is (B := w.heap.size) (by omega) (Nat.le_of_lt hXlt))
  have hnlt := fun b hb => (Own.lt hXN b hb).2
  have hdlt := fun b hb => (Own.lt hXD b hb).2
  have hXN4 : OwV (w3.setCell ⟨gX, 1, none⟩ (.int .i64 v)) W.heap.size 9 Xn xn xc (sv qns) := Own.below hXN3 (hK4.under (B := w2.heap.size) (by have := hbS.size; omega) (fun k hk e => by have e' : k = gX := e; omega)) hnlt
  have hXD4 : OwB (w3.setCell ⟨gX, 1, none⟩ (.int .i64 v)) W.heap.size Xd xd xe qd := Own.below hXD3 (hK4.under (B := w2.heap.size) (by have := hbS.size; omega) (fun k hk e => by have e' : k = gX := e; omega)) hdlt
  clear hX hXN3 hXD3 hZ3 hbS hXN hXD
  go_upto_region 3 with fail
  generalize w3.setCell ⟨gX, 1, none⟩ (.int .i64 v) = w4 at hX4 hZ4 hB4 hXN4 hXD4 hK4
  clear ku kf hK4
  have e0 := hX4.cell 0 _ rfl
  have e1 := hX4.cell 1 _ rfl
  have e2 := hX4.cell 2 _ rfl
  have e3 := hX4.cell 3 _ rfl
  have e4 := hX4.cell 4 _ rfl
  have e5 := hX4.cell 5 _ rfl
  have e6 := hX4.cell 6 _ rfl
  have e7 := hX4.cell 7 _ rfl
  have e8 := hX4.cell 8 _ rfl
  have e9 := hX4.cell 9 _ rfl
  have e10 := hX4.cell 10 _ rfl
  have e11 := hX4.cell 11 _ rfl
  have e12 := hX4.cell 12 _ rfl
  have e13 := hX4.cell 13 _ rfl
  go_wp2_with (refine wpList_storeBlk rfl (.tmp 2) (.tmp 11) rfl rfl [.int .i64 q0, .int .i64 v, .int .i64 q2, .int .i64 q3, .int .i64 q4, .int .i64 q5, .int .i64 q6, .int .i64 q7, .int .i64 q8, .int .i64 q9, .string (st qn), .slice Xn xn xc, .int .i64 q10, .slice Xd xd xe] rfl rfl (by kernel_rfl) hZ4 rfl (by simp [Value.oneCell']) ?_)
  have hF := hZ4.setRow [.int .i64 q0, .int .i64 v, .int .i64 q2, .int .i64 q3, .int .i64 q4, .int .i64 q5, .int .i64 q6, .int .i64 q7, .int .i64 q8, .int .i64 q9, .string (st qn), .slice Xn xn xc, .int .i64 q10, .slice Xd xd xe]
  have z0 := hF.cell 0 _ rfl
  have z1 := hF.cell 1 _ rfl
  have z2 := hF.cell 2 _ rfl
  have z3 := hF.cell 3 _ rfl
  have z4 := hF.cell 4 _ rfl
  have z5 := hF.cell 5 _ rfl
  have z6 := hF.cell 6 _ rfl
  have z7 := hF.cell 7 _ rfl
  have z8 := hF.cell 8 _ rfl
  have z9 := hF.cell 9 _ rfl
  have z10 := hF.cell 10 _ rfl
  have z11 := hF.cell 11 _ rfl
  have z12 := hF.cell 12 _ rfl
  have z13 := hF.cell 13 _ rfl
  have hnz : ∀ k, W.heap.size ≤ k → ¬ Is gZ k := fun k hk e => by have e' : k = gZ := e; omega
  have hN5 : OwV (w4.setRow gZ #[.int .i64 q0, .int .i64 v, .int .i64 q2, .int .i64 q3, .int .i64 q4, .int .i64 q5, .int .i64 q6, .int .i64 q7, .int .i64 q8, .int .i64 q9, .string (st qn), .slice Xn xn xc, .int .i64 q10, .slice Xd xd xe]) W.heap.size 9 Xn xn xc (sv qns) := Own.keeps hXN4 (keeps_setRow (g := gZ) _ _) hnz
  have hD5 : OwB (w4.setRow gZ #[.int .i64 q0, .int .i64 v, .int .i64 q2, .int .i64 q3, .int .i64 q4, .int .i64 q5, .int .i64 q6, .int .i64 q7, .int .i64 q8, .int .i64 q9, .string (st qn), .slice Xn xn xc, .int .i64 q10, .slice Xd xd xe]) W.heap.size Xd xd xe qd := Own.keeps hXD4 (keeps_setRow (g := gZ) _ _) hnz
  have hB5 := below_setRow hB4 (show w.heap.size ≤ gZ by omega) #[.int .i64 q0, .int .i64 v, .int .i64 q2, .int .i64 q3, .int .i64 q4, .int .i64 q5, .int .i64 q6, .int .i64 q7, .int .i64 q8, .int .i64 q9, .string (st qn), .slice Xn xn xc, .int .i64 q10, .slice Xd xd xe]
  exact bodyPost_ret (v := .agg #[.int .i64 q0, .int .i64 v, .int .i64 q2, .int .i64 q3, .int .i64 q4, .int .i64 q5, .int .i64 q6, .int .i64 q7, .int .i64 q8, .int .i64 q9, .string (st qn), .slice Xn xn xc, .int .i64 q10, .slice Xd xd xe]) (by simp [results, Try.results21, go_sem, z0, z1, z2, z3, z4, z5, z6, z7, z8, z9, z10, z11, z12, z13]) rfl ⟨⟨q0, v, q2, q3, q4, q5, q6, q7, q8, q9, q10, qn, qns, qd⟩, Xn, xn, xc, Xd, xd, xe, Lib.hid (by rw [askO, ← hy.out, HV.out]), rfl, hN5.lower HB.out.size, hD5.lower HB.out.size, hB5⟩

def LkRel (n : Nat) (w : World) (i : Value) (wr : World) : Prop := ∃ j : Nat, j ≤ n ∧ i = .int .i64 j ∧ Below w.heap.size w wr
set_option maxHeartbeats 4000000 in
theorem like_any (g : Nat) (rows : List (List Value)) (n most : Nat) (ts : List Int) (A : Option Addr) (c : Nat) (os : List (List Value)) (w : World) (h : TG w g rows n most) (ht : TagsAre rows n ts) (hR : RdR w w.heap.size 14 A n os) (hto : TagsAre os n ts) :
    Calls Try.prog 22 #[.pointer (some ⟨g, 0, none⟩), .slice A n c] w fun e w' => e = .returned (.bool true) ∧ Below w.heap.size w w' := by
  have H := Lib.hid h
  have HT := Lib.hid ht
  have HR := Lib.hid hR
  have HTO := Lib.hid hto
  have hn8 : n ≤ 8 := Nat.le_trans h.2.2.1 h.2.2.2.1
  clear h ht hR hto
  go_enter Try.func22, Try.ntmps22
  go_wp2_with fail
  refine (live_any g rows n most ts _ H.out HT.out).mono ?_
  rintro e w1 ⟨AL, cl, rfl, hL, hb1⟩
  have HL := Lib.hid hL
  have Hb1 := Lib.hid hb1
  clear hL hb1
  go_wp2_with fail
  refine (len_any g rows n most _ (H.out.up Hb1.out)).mono ?_
  rintro e w2 ⟨rfl, rfl⟩
  go_wp2
  go_loopw [6] (fun i wr => LkRel n w1 i wr) (fun i _ => n - (intOf i).toNat)
  case atStart => exact ⟨0, by omega, rfl, Below.refl _ _⟩
  case round =>
    obtain ⟨j, hj, rfl, hbw⟩ := hrel
    have HB := Lib.hid hbw
    clear hbw
    by_cases hlt : j < n
    · have j0 : (0 : Int) ≤ j := by omega
      have j1 : (j : Int) < n := by omega
      have hl : j < ts.length := by rw [HT.out.1]; exact hlt
      obtain ⟨x, hx⟩ : ∃ x, x = ts[j] := ⟨_, rfl⟩
      obtain ⟨b1, o1, u1, hA1, hbl1, hu1, hc1⟩ := ((HL.out.rd).below HB.out).at_ hlt
      obtain rfl : u1 = .int .i64 x := by
        rw [List.getElem?_map, List.getElem?_eq_getElem hl, ← hx] at hu1
        exact (Option.some.inj hu1).symm
      subst hA1
      obtain ⟨r, hr, hv⟩ := HTO.out.2 j x (by rw [List.getElem?_eq_getElem hl, hx])
      obtain ⟨b2, o2, r2, hA2, hbl2, hr2, _, hc2⟩ := ((HR.out.up Hb1.out).below HB.out).at_ hlt
      obtain rfl : r2 = r := Option.some.inj (hr2.symm.trans hr)
      subst hA2
      have d1 : ∀ p : Abv NoG wr.drew, p.val.cell? ⟨b1, o1 + j, none⟩ = some (.int .i64 x) := cell_abv (w := wr.drew) hc1 id
      have d2 := cell_abv (G := NoG) (w := wr.drew) (hc2 1 _ hv) id
      have hmem : decide (x ∈ ts) = true := by rw [decide_eq_true_iff, hx]; exact List.getElem_mem hl
      have HM := Lib.hid hmem
      clear hc1 hc2 hr hr2 hv hu1 hx hmem
      go_wp2
      refine wp_region_tq NoG (.t 0 (.t 1 (.t 2 (.t 3 (.t 4 (.t 5 (.t 6 (.t 7 (.t 8 (.t 9 (.t 10 (.t 11 (.t 12 (.t 13 (.t 14 (.t 15 (.s 16 (.t 17 (.t 18 .nil))))))))))))))))))) (by kernel_rfl) (by kernel_rfl) ?_
      repeat (refine tq_take (by simp only [List.getElem?_toArray, List.getElem?_cons_succ, List.getElem?_cons_zero]; exact rfl) ?_; go_big_quiet_step (fail); refine wpQuiet_nil ?_)
      refine tq_solo (by simp only [List.getElem?_toArray, List.getElem?_cons_succ, List.getElem?_cons_zero]; exact rfl) ?_
      clear d1 d2
      go_wp2_with fail
      refine (has_tag g rows n most ts x wr.drew (have hh : TG wr g rows n most := (H.out.up Hb1.out).up HB.out; hh) HT.out).mono ?_
      rintro e w5 ⟨rfl, hb5⟩
      rw [HM.out]
      have HB5 := Lib.hid (HB.out.drew.trans (hb5.mono (show w1.heap.size ≤ wr.drew.heap.size from HB.out.size)))
      have Hb5 := Lib.hid hb5
      clear hb5
      go_wp2
      refine Solo.up Hb5.out ?_
      repeat (refine tq_take (by simp only [List.getElem?_toArray, List.getElem?_cons_succ, List.getElem?_cons_zero]; exact rfl) ?_; go_big_quiet_step (fail); refine wpQuiet_nil ?_)
      refine tq_end ?_
      clear Hb5
      go_wp2
      go_roundw
      case rel => exact ⟨j + 1, by omega, by go_num, HB5.out⟩
      case measure => simp [intOf]; omega
    · obtain rfl : j = n := by omega
      have j1 : ¬ (j : Int) < j := by omega
      go_wp2
      go_ret
      exact ⟨rfl, Up.trans Hb1.out HB.out⟩
end Go.Proofs.Ytgogdgpdkkbfhaa
