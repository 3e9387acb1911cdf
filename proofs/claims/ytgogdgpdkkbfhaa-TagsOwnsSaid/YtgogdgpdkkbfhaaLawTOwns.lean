/-
  Layer 22: the law TagsOwns, walked.
-/
import Derived.Test.YtgogdgpdkkbfhaaTagsE
import Derived.Test.YtgogdgpdkkbfhaaAskIn
namespace Go.Proofs.Ytgogdgpdkkbfhaa
open Go.RowKit
set_option linter.unusedVariables false
set_option linter.unusedSimpArgs false

/-- The blocks from a on, below b. -/
def Mid (a b : Nat) : Nat → Prop := fun k => a ≤ k ∧ k < b

theorem own_apart {w : World} {b1 b2 : Nat} {e1 e2 : TypeId} {s1 s2 : Nat} {v1 : Value} {n1 n2 c2 g2 : Nat} {l1 l2 : List Value} (h1 : Own w b1 e1 s1 v1 n1 l1) (h2 : Own w b2 e2 s2 (.slice (some ⟨g2, 0, none⟩) n2 c2) n2 l2) (he : e1 ≠ e2) : v1.ownBlock = none ∨ v1.ownBlock ≠ some g2 := by
  rcases h1.2 with ⟨rfl, _⟩ | ⟨g, cap, cur, fz, rfl, _, hh, _⟩
  · left; rfl
  · right
    intro e
    have e' : g = g2 := by simpa [Value.ownBlock] using e
    subst e'
    rcases h2.2 with ⟨hv, _⟩ | ⟨g', cap', cur', fz', hv, _, hh', _⟩
    · cases hv
    · injection hv with hv1
      injection hv1 with hv1
      injection hv1 with hv1
      subst hv1
      rw [hh] at hh'
      injection hh' with hh'
      injection hh' with _ h3
      exact he h3
theorem Own.blkB {w : World} {base n c : Nat} {A : Option Addr} {l : List UInt8} (h : OwB w base A n c l) (hn : 0 < n) : ∃ g, A = some ⟨g, 0, none⟩ ∧ base ≤ g ∧ g < w.heap.size := OwV.blk (e := 5) (xs := bv l) h hn
theorem Own.byte0 {w : World} {base n c g : Nat} {l : List UInt8} (h : OwB w base (some ⟨g, 0, none⟩) n c l) (hn : 0 < n) : ∃ z : UInt8, w.cell? ⟨g, 0, none⟩ = some (.int .u8 (z.toNat : Int)) := by
  have hl : l.length = n := OwB.len h
  have hc := Own.cells h (g := g) rfl 0 (.int .u8 ((l[0]'(by omega)).toNat : Int)) (by simp only [bv]; rw [List.getElem?_map, List.getElem?_eq_getElem (by omega)]; rfl)
  exact ⟨_, hc⟩

set_option maxRecDepth 100000 in
set_option maxHeartbeats 8000000 in
theorem tagsOwns_walk (kind tag fid nfid otag msize mode perm off count size : Int) (name : List UInt8) (names : List (List UInt8)) (data : List UInt8) (An : Option Addr) (nn cn : Nat) (Ad : Option Addr) (nd cd : Nat) (by_ : Int) (w : World)
    (hok : AskOk w w.heap.size ⟨kind, tag, fid, nfid, otag, msize, mode, perm, off, count, size, name, names, data⟩ An nn cn Ad nd cd) (hb0 : 0 ≤ by_) (hb1 : by_ ≤ 255) :
    Calls Try.prog 4 #[.agg #[.int .i64 kind, .int .i64 tag, .int .i64 fid, .int .i64 nfid, .int .i64 otag, .int .i64 msize, .int .i64 mode, .int .i64 perm, .int .i64 off, .int .i64 count, .string (st name), .slice An nn cn, .int .i64 size, .slice Ad nd cd], .int .u8 by_] w fun e w' => e = .returned (.bool true) ∧ Below w.heap.size w w' := by
  have hz := askZ_zero
  have hA0 := Blk.new w 32 [.int .i64 kind, .int .i64 tag, .int .i64 fid, .int .i64 nfid, .int .i64 otag, .int .i64 msize, .int .i64 mode, .int .i64 perm, .int .i64 off, .int .i64 count, .string (st name), .slice An nn cn, .int .i64 size, .slice Ad nd cd]
  obtain ⟨W, hW⟩ : ∃ x, x = w.alloc (.cells #[.int .i64 kind, .int .i64 tag, .int .i64 fid, .int .i64 nfid, .int .i64 otag, .int .i64 msize, .int .i64 mode, .int .i64 perm, .int .i64 off, .int .i64 count, .string (st name), .slice An nn cn, .int .i64 size, .slice Ad nd cd] 32) := ⟨_, rfl⟩
  rw [show w.alloc (.cells ([.int .i64 kind, .int .i64 tag, .int .i64 fid, .int .i64 nfid, .int .i64 otag, .int .i64 msize, .int .i64 mode, .int .i64 perm, .int .i64 off, .int .i64 count, .string (st name), .slice An nn cn, .int .i64 size, .slice Ad nd cd] : List Value).toArray 32) = W from hW.symm] at hA0
  have hbW : Below w.heap.size w W := by rw [hW]; exact (Below.refl _ _).alloc (Nat.le_refl _) _
  have hOk := hok.up hbW
  have hsW : W.heap.size = w.heap.size + 1 := by rw [hW]; simp
  have HA := Lib.hid hA0
  have HB := Lib.hid hbW
  have HOk := Lib.hid hOk
  clear hA0 hbW hOk hok
  go_enter Try.func4, Try.ntmps4
  go_upto_region 1 with fail
  rw [← hW]
  clear hW
  go_wp2_with fail
  refine (new_any 2 _ (by omega) (by omega)).mono ?_
  rintro e wn ⟨rfl, hTn, hbn⟩
  obtain ⟨g, hg⟩ : ∃ g, g = W.heap.size := ⟨_, rfl⟩
  rw [← hg] at hTn ⊢
  have hgle : w.heap.size < g := by omega
  have hA := HA.out.up hbn
  have hgn := hTn.lt
  have HT := Lib.hid hTn
  have HA1 := Lib.hid hA
  have HB1 := Lib.hid (HB.out.trans (hbn.mono (by omega)))
  have HOk1 := Lib.hid (HOk.out.up (hbn.mono (by omega)))
  have a0 := hA.cell 0 _ rfl
  have a1 := hA.cell 1 _ rfl
  have a2 := hA.cell 2 _ rfl
  have a3 := hA.cell 3 _ rfl
  have a4 := hA.cell 4 _ rfl
  have a5 := hA.cell 5 _ rfl
  have a6 := hA.cell 6 _ rfl
  have a7 := hA.cell 7 _ rfl
  have a8 := hA.cell 8 _ rfl
  have a9 := hA.cell 9 _ rfl
  have a10 := hA.cell 10 _ rfl
  have a11 := hA.cell 11 _ rfl
  have a12 := hA.cell 12 _ rfl
  have a13 := hA.cell 13 _ rfl
  clear hTn hA hbn hg HA HB HOk hsW
  go_wp2_with fail
  refine (good_ok ⟨kind, tag, fid, nfid, otag, msize, mode, perm, off, count, size, name, names, data⟩ An nn cn Ad nd cd _ (by have := HOk1.out; exact { this with names := this.names.more HB1.out.size, data := this.data.more HB1.out.size })).mono ?_
  rintro e w2 ⟨x, Xn, xn, xc, Xd, xd, xe, hx, rfl, hXN, hXD, hb2⟩
  have hxn := good_names ⟨kind, tag, fid, nfid, otag, msize, mode, perm, off, count, size, name, names, data⟩
  have hxd := good_data ⟨kind, tag, fid, nfid, otag, msize, mode, perm, off, count, size, name, names, data⟩
  rw [← hx.out] at hxn hxd
  obtain ⟨q0, q1, q2, q3, q4, q5, q6, q7, q8, q9, q10, qn, qns, qd⟩ := x
  simp only [askC]
  have hBz := Blk.new w2 32 [.int .i64 0, .int .i64 0, .int .i64 0, .int .i64 0, .int .i64 0, .int .i64 0, .int .i64 0, .int .i64 0, .int .i64 0, .int .i64 0, .string ByteArray.empty, .slice none 0 0, .int .i64 0, .slice none 0 0]
  have hbS : Below w2.heap.size w2 ((w2.alloc (.cells #[.int .i64 0, .int .i64 0, .int .i64 0, .int .i64 0, .int .i64 0, .int .i64 0, .int .i64 0, .int .i64 0, .int .i64 0, .int .i64 0, .string ByteArray.empty, .slice none 0 0, .int .i64 0, .slice none 0 0] 32)).setRow w2.heap.size #[.int .i64 q0, .int .i64 q1, .int .i64 q2, .int .i64 q3, .int .i64 q4, .int .i64 q5, .int .i64 q6, .int .i64 q7, .int .i64 q8, .int .i64 q9, .string (st qn), .slice Xn xn xc, .int .i64 q10, .slice Xd xd xe]) := below_setRow ((Below.refl _ _).alloc (Nat.le_refl _) _) (Nat.le_refl _) _
  have hX := hBz.setRow [.int .i64 q0, .int .i64 q1, .int .i64 q2, .int .i64 q3, .int .i64 q4, .int .i64 q5, .int .i64 q6, .int .i64 q7, .int .i64 q8, .int .i64 q9, .string (st qn), .slice Xn xn xc, .int .i64 q10, .slice Xd xd xe]
  obtain ⟨gX, hgX⟩ : ∃ g, g = w2.heap.size := ⟨_, rfl⟩
  go_upto_region 5 with (refine wpList_storeBlk rfl (.tmp 7) (.tmp 21) rfl rfl [.int .i64 q0, .int .i64 q1, .int .i64 q2, .int .i64 q3, .int .i64 q4, .int .i64 q5, .int .i64 q6, .int .i64 q7, .int .i64 q8, .int .i64 q9, .string (st qn), .slice Xn xn xc, .int .i64 q10, .slice Xd xd xe] rfl rfl (by kernel_rfl) hBz rfl (by simp [Value.oneCell']) ?_)
  clear a0 a1 a2 a3 a4 a5 a6 a7 a8 a9 a10 a11 a12 a13 hBz
  generalize (w2.alloc (.cells #[.int .i64 0, .int .i64 0, .int .i64 0, .int .i64 0, .int .i64 0, .int .i64 0, .int .i64 0, .int .i64 0, .int .i64 0, .int .i64 0, .string ByteArray.empty, .slice none 0 0, .int .i64 0, .slice none 0 0] 32)).setRow w2.heap.size #[.int .i64 q0, .int .i64 q1, .int .i64 q2, .int .i64 q3, .int .i64 q4, .int .i64 q5, .int .i64 q6, .int .i64 q7, .int .i64 q8, .int .i64 q9, .string (st qn), .slice Xn xn xc, .int .i64 q10, .slice Xd xd xe] = w5 at hbS hX
  rw [← hgX] at hX ⊢
  have hTX := (HT.out.up hb2).up hbS
  have hAX := (HA1.out.up hb2).up hbS
  have hXN' := hXN.up hbS
  have hXD' := hXD.up hbS
  have HB5 := Lib.hid (HB1.out.trans ((Up.trans hb2 hbS).mono HB1.out.size))
  have HOk5 := Lib.hid (HOk1.out.up ((Up.trans hb2 hbS).mono HB1.out.size))
  have hgXn : wn.heap.size ≤ gX := by rw [hgX]; exact hb2.size
  have hXNb : ∀ gn, Xn = some ⟨gn, 0, none⟩ → wn.heap.size ≤ gn ∧ gn < gX := fun gn h => by subst h; rw [hgX]; exact Own.lt hXN gn rfl
  have hXDb : ∀ gn, Xd = some ⟨gn, 0, none⟩ → wn.heap.size ≤ gn ∧ gn < gX := fun gn h => by subst h; rw [hgX]; exact Own.lt hXD gn rfl
  have HXNb := Lib.hid hXNb
  have HXDb := Lib.hid hXDb
  have hX5 := hX.lt
  clear hXNb hXDb
  have x0 := hX.cell 0 _ rfl
  have x1 := hX.cell 1 _ rfl
  have x2 := hX.cell 2 _ rfl
  have x3 := hX.cell 3 _ rfl
  have x4 := hX.cell 4 _ rfl
  have x5 := hX.cell 5 _ rfl
  have x6 := hX.cell 6 _ rfl
  have x7 := hX.cell 7 _ rfl
  have x8 := hX.cell 8 _ rfl
  have x9 := hX.cell 9 _ rfl
  have x10 := hX.cell 10 _ rfl
  have x11 := hX.cell 11 _ rfl
  have x12 := hX.cell 12 _ rfl
  have x13 := hX.cell 13 _ rfl
  have HX5 := Lib.hid hX
  have HT5 := Lib.hid hTX
  have HA5 := Lib.hid hAX
  have HN5 := Lib.hid hXN'
  have HD5 := Lib.hid hXD'
  have hxnl : xn ≤ 8 := by have := hXN.len; rw [sv_length] at this; have h8 : qns.length ≤ 8 := hxn; omega
  have hxdl : xd ≤ 30 := by have := hXD.len; have h8 : qd.length ≤ 30 := hxd; omega
  clear hX hTX hAX hXN' hXD' hXN hXD hb2 hbS hgX HT HA1 HB1 HOk1 hxn hxd
  go_wp2_with fail
  refine (put_any g rows0 0 2 [] q1 (.int .i64 q0) (.int .i64 q2) (.int .i64 q3) (.int .i64 q4) (.int .i64 q5) (.int .i64 q6) (.int .i64 q7) (.int .i64 q8) (.int .i64 q9) (.string (st qn)) (.int .i64 q10) Xn xn xc (sv qns) Xd xd xe qd _ HT5.out (TagsAre.nil _) (by simp [Value.oneCell']) HN5.out.rd (sv_one _) (by omega) HD5.out.rd (by omega)).mono ?_
  rintro e w6 (⟨h1, h2, h3⟩ | ⟨h1, h2, h3, h4⟩ | ⟨h1, h2, rfl, Pn, pn, pc, pnm, Pd, pd, pe, pld, hpn, hpd, hPN, hPD, hT6, hK6⟩)
  · simp [placeL] at h1
  · omega
  have hX6 := HX5.out.keeps hK6 (show ¬ gX = g by omega)
  have hA6 := HA5.out.keeps hK6 (show ¬ w.heap.size = g by omega)
  have hN6 : OwV w6 wn.heap.size 9 Xn xn xc (sv qns) := Own.keeps HN5.out hK6 (fun k hk e => by have e' : k = g := e; omega)
  have hD6 : OwB w6 wn.heap.size Xd xd xe qd := Own.keeps HD5.out hK6 (fun k hk e => by have e' : k = g := e; omega)
  have HB6 := Lib.hid (HB5.out.trans (hK6.is (by omega) (Nat.le_of_lt HT5.out.lt)))
  have HOk6 := Lib.hid (HOk5.out.up (hK6.is (by omega) (Nat.le_of_lt HT5.out.lt)))
  have HX6 := Lib.hid hX6
  have HA6 := Lib.hid hA6
  have HT6 := Lib.hid hT6
  have HN6 := Lib.hid hN6
  have HD6 := Lib.hid hD6
  have HPN := Lib.hid hPN
  have HPD := Lib.hid hPD
  have hs56 : w5.heap.size ≤ w6.heap.size := hK6.size
  clear hX6 hA6 hT6 hN6 hD6 hPN hPD hK6 HB5 HOk5 HX5 HA5 HT5 HN5 HD5 x0 x1 x2 x3 x4 x5 x6 x7 x8 x9 x10 x11 x12 x13 h1 h2
  have kx := HX6.out.cell 11 _ rfl
  go_upto_if 29 with fail
  go_cut [] from 26 (fun wx => Keeps (Mid wn.heap.size gX) w6 wx ∧ OwB wx wn.heap.size Xd xd xe qd)
  case first =>
    by_cases hn0 : 0 < xn
    · obtain ⟨gn, hXn, _, _⟩ := HN6.out.blk hn0
      subst hXn
      obtain ⟨l1, l2⟩ := HXNb.out gn rfl
      obtain ⟨⟨v0, ku⟩, kf, _, hgr⟩ := Own.store HN6.out 0 hn0 (.string (st [99, 104, 97, 110, 103, 101, 100]))
      have hD7 : OwB (w6.setCell ⟨gn, 0, none⟩ (.string (st [99, 104, 97, 110, 103, 101, 100]))) wn.heap.size Xd xd xe qd := Own.kept HD6.out hgr (own_apart HD6.out HN6.out (by decide))
      have hK7 : Keeps (Mid wn.heap.size gX) w6 (w6.setCell ⟨gn, 0, none⟩ (.string (st [99, 104, 97, 110, 103, 101, 100]))) := (Keeps.refl _ _).setCell (.inl ⟨l1, l2⟩) _
      have hn1 : (0 : Int) < xn := by omega
      have HD7 := Lib.hid hD7
      have HK7 := Lib.hid hK7
      clear hD7 hK7 hgr
      go_wp2
      go_meet
      exact ⟨HK7.out, HD7.out⟩
    · have hn1 : ¬ (0 : Int) < xn := by omega
      go_wp2
      go_meet
      exact ⟨Keeps.refl _ _, HD6.out⟩
  case rest =>
    obtain ⟨hKc, hDc⟩ := hcut
    have hXc := HX6.out.keeps hKc (show ¬ Mid wn.heap.size gX gX from fun h => by have := h.2; omega)
    have kd := hXc.cell 13 _ rfl
    have HXc := Lib.hid hXc
    have HDc := Lib.hid hDc
    have HKc := Lib.hid hKc
    clear hXc hDc hKc kx
    go_upto_if 36 with fail
    go_cut [] from 33 (fun wy => Keeps (Mid wn.heap.size gX) wc wy)
    case first =>
      by_cases hn0 : 0 < xd
      · obtain ⟨gn, hXd, _, _⟩ := Own.blkB HDc.out hn0
        subst hXd
        obtain ⟨l1, l2⟩ := HXDb.out gn rfl
        have hn1 : (0 : Int) < xd := by omega
        obtain ⟨⟨v0, ku⟩, kf, _, _⟩ := Own.store HDc.out 0 hn0 (.int .u8 0)
        obtain ⟨z0, hz0⟩ : ∃ z : UInt8, wc.cell? ⟨gn, 0, none⟩ = some (.int .u8 (z.toNat : Int)) := Own.byte0 HDc.out hn0
        clear ku
        go_wp2_with fail
        refine wp_region_tq (Mid wn.heap.size gX) (.t 0 (.t 1 (.t 2 (.t 3 (.t 4 (.t 6 (.s 5 (.t 7 (.t 8 (.s 9 .nil)))))))))) (by kernel_rfl) (by kernel_rfl) ?_
        have kd' := cell_abv (G := Mid wn.heap.size gX) (w := wc.drew) kd (fun h => by have := h.2; omega)
        repeat (refine tq_take (by simp only [List.getElem?_toArray, List.getElem?_cons_succ, List.getElem?_cons_zero]; exact rfl) ?_; go_big_quiet_step (fail); refine wpQuiet_nil ?_)
        clear kd'
        refine tq_solo (by simp only [List.getElem?_toArray, List.getElem?_cons_succ, List.getElem?_cons_zero]; exact rfl) ?_
        have hz1 : wc.drew.cell? ⟨gn, 0, none⟩ = some (.int .u8 (z0.toNat : Int)) := hz0
        have kf1 : wc.drew.frozen? ⟨gn, 0, none⟩ = false := kf
        go_wp2
        refine Solo.up (Below.refl _ _) ?_
        repeat (refine tq_take (by simp only [List.getElem?_toArray, List.getElem?_cons_succ, List.getElem?_cons_zero]; exact rfl) ?_; go_big_quiet_step (fail); refine wpQuiet_nil ?_)
        refine tq_solo (by simp only [List.getElem?_toArray, List.getElem?_cons_succ, List.getElem?_cons_zero]; exact rfl) ?_
        go_wp2
        refine Solo.mk ((Keeps.refl (Mid wn.heap.size gX) wc.drew).setCell (p := ⟨gn, 0, none⟩) (.inl ⟨l1, l2⟩) _) ?_
        refine tq_end ?_
        go_wp2
        go_meet
        exact (Keeps.refl (Mid wn.heap.size gX) wc).drew.trans ((Keeps.refl (Mid wn.heap.size gX) wc.drew).setCell (p := ⟨gn, 0, none⟩) (.inl ⟨l1, l2⟩) _)
      · have hn1 : ¬ (0 : Int) < xd := by omega
        go_wp2
        go_meet
        exact Keeps.refl _ _
    case rest =>
      have hK := HKc.out.trans hcut
      have hT := HT6.out.keeps hK (show ¬ Mid wn.heap.size gX g from fun h => by have := h.1; omega)
      have hA := HA6.out.keeps hK (show ¬ Mid wn.heap.size gX w.heap.size from fun h => by have := h.1; omega)
      have hPN : OwV _ w5.heap.size 9 Pn pn pc pnm := Own.keeps HPN.out hK (fun k hk h => by have := h.2; omega)
      have hPD : OwB _ w5.heap.size Pd pd pe pld := Own.keeps HPD.out hK (fun k hk h => by have := h.2; omega)
      have hB := HB6.out.trans (hK.under (B := w.heap.size) HB6.out.size (fun k hk h => by have := h.1; omega))
      have hOk := HOk6.out.up (hK.under (B := w.heap.size) HB6.out.size (fun k hk h => by have := h.1; omega))
      have hB2 := Lib.hid hB
      have hOk2 := Lib.hid hOk
      have HT := Lib.hid hT
      have HA := Lib.hid hA
      have HPN := Lib.hid hPN
      have HPD := Lib.hid hPD
      have hsy : w5.heap.size ≤ wc.heap.size := Nat.le_trans hs56 hK.size
      clear hK hT hA hPN hPD hB hOk hcut kd HXc HDc HKc HX6 HA6 HT6 HN6 HD6 HB6 HOk6
      go_wp2_with fail
      refine (pick_any g (rows0.set 0 [.int .i64 q0, .int .i64 q1, .int .i64 q2, .int .i64 q3, .int .i64 q4, .int .i64 q5, .int .i64 q6, .int .i64 q7, .int .i64 q8, .int .i64 q9, .string (st qn), .slice Pn pn pc, .int .i64 q10, .slice Pd pd pe]) 1 0 2 0 (.int .i64 q0) (.int .i64 q1) (.int .i64 q2) (.int .i64 q3) (.int .i64 q4) (.int .i64 q5) (.int .i64 q6) (.int .i64 q7) (.int .i64 q8) (.int .i64 q9) (.string (st qn)) (.slice Pn pn pc) (.int .i64 q10) (.slice Pd pd pe) _ HT.out rfl (by omega) rfl (AllOne.set AllOne.zero _ _ (by simp [Value.oneCell']))).mono ?_
      rintro e w8 ⟨rfl, rows8, _, _, hT8, hK8⟩
      have hA8 := HA.out.keeps hK8 (show ¬ w.heap.size = g by omega)
      have hPN8 : OwV w8 w5.heap.size 9 Pn pn pc pnm := Own.keeps HPN.out hK8 (fun k hk h => by have h' : k = g := h; omega)
      have hPD8 : OwB w8 w5.heap.size Pd pd pe pld := Own.keeps HPD.out hK8 (fun k hk h => by have h' : k = g := h; omega)
      have hbK := hK8.is (B := w.heap.size) (by omega) (Nat.le_of_lt HT.out.lt)
      have HB8 := Lib.hid (hB2.out.trans hbK)
      have HOk8 := Lib.hid (hOk2.out.up hbK)
      have hBz := Blk.new w8 32 [.int .i64 0, .int .i64 0, .int .i64 0, .int .i64 0, .int .i64 0, .int .i64 0, .int .i64 0, .int .i64 0, .int .i64 0, .int .i64 0, .string ByteArray.empty, .slice none 0 0, .int .i64 0, .slice none 0 0]
      have hbS : Below w8.heap.size w8 ((w8.alloc (.cells #[.int .i64 0, .int .i64 0, .int .i64 0, .int .i64 0, .int .i64 0, .int .i64 0, .int .i64 0, .int .i64 0, .int .i64 0, .int .i64 0, .string ByteArray.empty, .slice none 0 0, .int .i64 0, .slice none 0 0] 32)).setRow w8.heap.size #[.int .i64 q0, .int .i64 q1, .int .i64 q2, .int .i64 q3, .int .i64 q4, .int .i64 q5, .int .i64 q6, .int .i64 q7, .int .i64 q8, .int .i64 q9, .string (st qn), .slice Pn pn pc, .int .i64 q10, .slice Pd pd pe]) := below_setRow ((Below.refl _ _).alloc (Nat.le_refl _) _) (Nat.le_refl _) _
      have hY := hBz.setRow [.int .i64 q0, .int .i64 q1, .int .i64 q2, .int .i64 q3, .int .i64 q4, .int .i64 q5, .int .i64 q6, .int .i64 q7, .int .i64 q8, .int .i64 q9, .string (st qn), .slice Pn pn pc, .int .i64 q10, .slice Pd pd pe]
      go_upto_region 12 with (refine wpList_storeBlk rfl (.tmp 8) (.tmp 49) rfl rfl [.int .i64 q0, .int .i64 q1, .int .i64 q2, .int .i64 q3, .int .i64 q4, .int .i64 q5, .int .i64 q6, .int .i64 q7, .int .i64 q8, .int .i64 q9, .string (st qn), .slice Pn pn pc, .int .i64 q10, .slice Pd pd pe] rfl rfl (by kernel_rfl) hBz rfl (by simp [Value.oneCell']) ?_)
      clear hBz hT8 hbK
      generalize (w8.alloc (.cells #[.int .i64 0, .int .i64 0, .int .i64 0, .int .i64 0, .int .i64 0, .int .i64 0, .int .i64 0, .int .i64 0, .int .i64 0, .int .i64 0, .string ByteArray.empty, .slice none 0 0, .int .i64 0, .slice none 0 0] 32)).setRow w8.heap.size #[.int .i64 q0, .int .i64 q1, .int .i64 q2, .int .i64 q3, .int .i64 q4, .int .i64 q5, .int .i64 q6, .int .i64 q7, .int .i64 q8, .int .i64 q9, .string (st qn), .slice Pn pn pc, .int .i64 q10, .slice Pd pd pe] = w9 at hbS hY
      have hA9 := (hA8.up hbS).drew
      have hY9 := hY.drew
      have hPN9 := hPN8.up hbS
      have hPD9 := hPD8.up hbS
      have HB9 := Lib.hid ((HB8.out.trans (hbS.mono HB8.out.size)).drew)
      have HOk9 := Lib.hid (HOk8.out.up ((hbS.mono HB8.out.size).drew))
      have HPN9 := Lib.hid hPN9.drew
      have HPD9 := Lib.hid hPD9.drew
      refine wp_region_tq NoG (.t 0 (.t 1 (.t 2 (.t 3 (.t 4 (.s 5 (.s 6 (.t 7 (.t 8 (.s 9 (.t 10 (.t 11 .nil)))))))))))) (by kernel_rfl) (by kernel_rfl) ?_
      have a0 := hA9.abv 0 _ rfl
      have y0 := hY9.abv 0 _ rfl
      have a1 := hA9.abv 1 _ rfl
      have y1 := hY9.abv 1 _ rfl
      have a2 := hA9.abv 2 _ rfl
      have y2 := hY9.abv 2 _ rfl
      have a3 := hA9.abv 3 _ rfl
      have y3 := hY9.abv 3 _ rfl
      have a4 := hA9.abv 4 _ rfl
      have y4 := hY9.abv 4 _ rfl
      have a5 := hA9.abv 5 _ rfl
      have y5 := hY9.abv 5 _ rfl
      have a6 := hA9.abv 6 _ rfl
      have y6 := hY9.abv 6 _ rfl
      have a7 := hA9.abv 7 _ rfl
      have y7 := hY9.abv 7 _ rfl
      have a8 := hA9.abv 8 _ rfl
      have y8 := hY9.abv 8 _ rfl
      have a9 := hA9.abv 9 _ rfl
      have y9 := hY9.abv 9 _ rfl
      have a10 := hA9.abv 10 _ rfl
      have y10 := hY9.abv 10 _ rfl
      have a11 := hA9.abv 11 _ rfl
      have y11 := hY9.abv 11 _ rfl
      have a12 := hA9.abv 12 _ rfl
      have y12 := hY9.abv 12 _ rfl
      have a13 := hA9.abv 13 _ rfl
      have y13 := hY9.abv 13 _ rfl
      repeat (refine tq_take (by simp only [List.getElem?_toArray, List.getElem?_cons_succ, List.getElem?_cons_zero]; exact rfl) ?_; go_big_quiet_step (fail); refine wpQuiet_nil ?_)
      clear a0 a1 a2 a3 a4 a5 a6 a7 a8 a9 a10 a11 a12 a13 y0 y1 y2 y3 y4 y5 y6 y7 y8 y9 y10 y11 y12 y13 hA9 hY9 hPN9 hPD9 hA8 hPN8 hPD8 hY hbS hK8
      refine tq_solo (by simp only [List.getElem?_toArray, List.getElem?_cons_succ, List.getElem?_cons_zero]; exact rfl) ?_
      go_wp2_with fail
      refine (good_ok ⟨kind, tag, fid, nfid, otag, msize, mode, perm, off, count, size, name, names, data⟩ An nn cn Ad nd cd _ (by have := HOk9.out; exact { this with names := this.names.more HB9.out.size, data := this.data.more HB9.out.size })).mono ?_
      rintro e wa ⟨x2, Gn, gn, gc, Gd, gd, ge, hx2, rfl, hGN, hGD, hba⟩
      obtain rfl := hx2.out.trans hx.out.symm
      simp only [askC]
      have HGN := Lib.hid hGN
      have HGD := Lib.hid hGD
      have Hba := Lib.hid hba
      clear hGN hGD hba
      go_wp2
      refine Solo.up Hba.out ?_
      refine tq_solo (by simp only [List.getElem?_toArray, List.getElem?_cons_succ, List.getElem?_cons_zero]; exact rfl) ?_
      go_wp2_with fail
      refine (same_eq q0 q1 q2 q3 q4 q5 q6 q7 q8 q9 q10 qn qns qd Pn pn pc Pd pd pe Gn gn gc Gd gd ge _ (by have := (HPN9.out.up Hba.out).rd; rw [hpn.out] at this; exact this) HGN.out.rd (by have := OwB.rd (HPD9.out.up Hba.out); rw [hpd.out] at this; exact this) (OwB.rd HGD.out) (by have := HPN9.out.len; rw [hpn.out, sv_length] at this; have := good_names ⟨kind, tag, fid, nfid, otag, msize, mode, perm, off, count, size, name, names, data⟩; rw [← hx.out] at this; have h8 : qns.length ≤ 8 := this; omega)).mono ?_
      rintro e wb ⟨rfl, hbb⟩
      have Hbb := Lib.hid hbb
      clear hbb
      go_wp2
      refine Solo.up Hbb.out ?_
      repeat (refine tq_take (by simp only [List.getElem?_toArray, List.getElem?_cons_succ, List.getElem?_cons_zero]; exact rfl) ?_; go_big_quiet_step (fail); refine wpQuiet_nil ?_)
      refine tq_solo (by simp only [List.getElem?_toArray, List.getElem?_cons_succ, List.getElem?_cons_zero]; exact rfl) ?_
      go_wp2_with fail
      refine (tlives_any _).mono ?_
      rintro e wc9 ⟨rfl, hbc⟩
      have Hbc := Lib.hid hbc
      clear hbc
      go_wp2
      refine Solo.up Hbc.out ?_
      repeat (refine tq_take (by simp only [List.getElem?_toArray, List.getElem?_cons_succ, List.getElem?_cons_zero]; exact rfl) ?_; go_big_quiet_step (fail); refine wpQuiet_nil ?_)
      refine tq_end ?_
      go_wp2
      go_ret
      exact ⟨rfl, HB9.out.trans ((Up.trans (Up.trans Hba.out Hbb.out) Hbc.out).mono HB9.out.size)⟩
end Go.Proofs.Ytgogdgpdkkbfhaa
