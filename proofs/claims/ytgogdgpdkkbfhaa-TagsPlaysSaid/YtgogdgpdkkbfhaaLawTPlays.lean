/-
  Layer 22: the law TagsPlays, walked.
-/
import Derived.Test.YtgogdgpdkkbfhaaTagsK
namespace Go.Proofs.Ytgogdgpdkkbfhaa
open Go.RowKit
set_option linter.unusedVariables false
set_option linter.unusedSimpArgs false

theorem placeL_idx {ts : List Int} {tag : Int} (h : tag ∈ ts) : ∃ k : Nat, placeL ts tag = k ∧ k < ts.length := by
  have h1 := List.findIdx_lt_length_of_exists (p := (· == tag)) (xs := ts) ⟨tag, h, by simp⟩
  exact ⟨_, by unfold placeL; rw [if_pos h1], h1⟩

def Pl22 (w0 : World) (g k n0 : Nat) (v i : Value) (wr : World) : Prop :=
  ∃ (j m c : Nat) (A : Option Addr) (rows os : List (List Value)) (xs : List AskV), j ≤ n0 ∧ j ≤ 24 ∧ i = .int .i64 j ∧ v = .slice A m c ∧ PlS wr g k m c A rows os xs ∧ Below w0.heap.size w0 wr

set_option maxRecDepth 100000 in
set_option maxHeartbeats 32000000 in
theorem tagsPlays_walk (most : Int) (Al : Option Addr) (n0 c0 : Nat) (w : World) (b0 : -9223372036854775808 ≤ most) (t0 : most ≤ 9223372036854775807) (hl : OArg w w.heap.size Al n0) (hn0 : n0 ≤ 9223372036854775807) :
    Calls Try.prog 7 #[.int .i64 most, .slice Al n0 c0] w fun e w' => e = .returned (.bool true) ∧ Below w.heap.size w w' := by
  have hz := askZ_zero
  have HL := Lib.hid hl
  clear hl
  go_enter Try.func7, Try.ntmps7
  go_wp2_with fail
  refine (around_any most 8 _ b0 t0 (by omega) (by omega)).mono ?_
  rintro e wn' ⟨kk, _, hk8, rfl, rfl⟩
  obtain ⟨k, hk⟩ : ∃ n : Nat, n = 1 + kk := ⟨_, rfl⟩
  have hki : 1 + (kk : Int) = k := by omega
  have k1 : 1 ≤ k := by omega
  have k8 : k ≤ 8 := by omega
  clear hk
  go_wp2_with fail
  clear hki
  refine (new_any k _ k1 k8).mono ?_
  rintro e wn ⟨rfl, hTn, hbn⟩
  have HTn := Lib.hid hTn
  obtain ⟨g, hg⟩ : ∃ g, g = w.heap.size := ⟨_, rfl⟩
  rw [← hg] at HTn ⊢
  have hgle : w.heap.size ≤ g := by omega
  have Hbn := Lib.hid hbn
  clear hTn hg hbn
  go_wp2
  go_loopw [8, 9] (fun v i wr => Pl22 w g k n0 v i wr) (fun _ i _ => 24 - (intOf i).toNat)
  case atStart => exact ⟨0, 0, 0, none, rows0, [], [], by omega, by omega, rfl, rfl, ⟨HTn.out, AllOne.zero, Rws.nil _ _ _, OwR.nil _ _ _ _, by simp, Rws.nil _ _ _, by simp, rfl⟩, Hbn.out⟩
  case round =>
    obtain ⟨j, m, c, A, rows, os, xs, hj, hj8, rfl, rfl, hS, hbw⟩ := hrel
    have HS := Lib.hid hS
    have HB := Lib.hid hbw
    have hgr := hS.tg.lt
    have hm8 := hS.m8
    have hcap := hS.own.cap
    clear hS hbw
    by_cases hlt : j < n0 ∧ j < 24
    · obtain ⟨hlt1, j24⟩ := hlt
      have j0 : (0 : Int) ≤ j := by omega
      have j1 : (j : Int) < n0 := by omega
      have j8 : (j : Int) < 24 := by omega
      obtain ⟨b, off, d, num, x, An, nn, cn, Ad, nd, cd, hAl, hbl, hc, hok, hd, hnum⟩ := (HL.out.up HB.out) j hlt1
      subst hAl
      obtain ⟨p0, p1, p2, p3, p4, p5, p6, p7, p8, p9, p10, pn, pns, pd⟩ := x
      have k0_ := hc 0 _ rfl
      have k1_ := hc 1 _ rfl
      have k2_ := hc 2 _ rfl
      have k3_ := hc 3 _ rfl
      have k4_ := hc 4 _ rfl
      have k5_ := hc 5 _ rfl
      have k6_ := hc 6 _ rfl
      have k7_ := hc 7 _ rfl
      have k8_ := hc 8 _ rfl
      have k9_ := hc 9 _ rfl
      have k10_ := hc 10 _ rfl
      have k11_ := hc 11 _ rfl
      have k12_ := hc 12 _ rfl
      have k13_ := hc 13 _ rfl
      have k14_ := hc 14 _ rfl
      have k15_ := hc 15 _ rfl
      simp only [Nat.add_zero] at k0_
      have HOK := Lib.hid hok
      have hBz := Blk.new wr 47 [.int .i64 0, .int .i64 0, .int .i64 0, .int .i64 0, .int .i64 0, .int .i64 0, .int .i64 0, .int .i64 0, .int .i64 0, .int .i64 0, .int .i64 0, .int .i64 0, .string ⟨#[]⟩, .slice none 0 0, .int .i64 0, .slice none 0 0]
      have hbS : Below wr.heap.size wr ((wr.alloc (.cells #[.int .i64 0, .int .i64 0, .int .i64 0, .int .i64 0, .int .i64 0, .int .i64 0, .int .i64 0, .int .i64 0, .int .i64 0, .int .i64 0, .int .i64 0, .int .i64 0, .string ⟨#[]⟩, .slice none 0 0, .int .i64 0, .slice none 0 0] 47)).setRow wr.heap.size #[.int .i64 d, .int .i64 num, .int .i64 p0, .int .i64 p1, .int .i64 p2, .int .i64 p3, .int .i64 p4, .int .i64 p5, .int .i64 p6, .int .i64 p7, .int .i64 p8, .int .i64 p9, .string (st pn), .slice An nn cn, .int .i64 p10, .slice Ad nd cd]) := below_setRow ((Below.refl _ _).alloc (Nat.le_refl _) _) (Nat.le_refl _) _
      have hY := hBz.setRow [.int .i64 d, .int .i64 num, .int .i64 p0, .int .i64 p1, .int .i64 p2, .int .i64 p3, .int .i64 p4, .int .i64 p5, .int .i64 p6, .int .i64 p7, .int .i64 p8, .int .i64 p9, .string (st pn), .slice An nn cn, .int .i64 p10, .slice Ad nd cd]
      obtain ⟨gO, hgO⟩ : ∃ g, g = wr.heap.size := ⟨_, rfl⟩
      clear hc hok
      go_upto_region 10 with (refine wpList_storeBlk rfl (.tmp 10) (.tmp 47) rfl rfl [.int .i64 d, .int .i64 num, .int .i64 p0, .int .i64 p1, .int .i64 p2, .int .i64 p3, .int .i64 p4, .int .i64 p5, .int .i64 p6, .int .i64 p7, .int .i64 p8, .int .i64 p9, .string (st pn), .slice An nn cn, .int .i64 p10, .slice Ad nd cd] rfl rfl (by kernel_rfl) hBz rfl (by simp [Value.oneCell']) ?_)
      clear hBz k0_ k1_ k2_ k3_ k4_ k5_ k6_ k7_ k8_ k9_ k10_ k11_ k12_ k13_ k14_ k15_
      generalize (wr.alloc (.cells #[.int .i64 0, .int .i64 0, .int .i64 0, .int .i64 0, .int .i64 0, .int .i64 0, .int .i64 0, .int .i64 0, .int .i64 0, .int .i64 0, .int .i64 0, .int .i64 0, .string ⟨#[]⟩, .slice none 0 0, .int .i64 0, .slice none 0 0] 47)).setRow wr.heap.size #[.int .i64 d, .int .i64 num, .int .i64 p0, .int .i64 p1, .int .i64 p2, .int .i64 p3, .int .i64 p4, .int .i64 p5, .int .i64 p6, .int .i64 p7, .int .i64 p8, .int .i64 p9, .string (st pn), .slice An nn cn, .int .i64 p10, .slice Ad nd cd] = w1 at hbS hY
      rw [← hgO] at hY ⊢
      have hgO1 : g < gO := by omega
      have hgO2 : w.heap.size < gO := by omega
      clear hgO
      have HS1 := Lib.hid (HS.out.up hbS)
      have HB1 := Lib.hid (HB.out.trans (hbS.mono HB.out.size))
      have HOK1 := Lib.hid (HOK.out.up (hbS.mono HB.out.size))
      have HY1 := Lib.hid hY
      have y0_ := hY.cell 0 _ rfl
      have hgr1 := HS1.out.tg.lt
      clear hbS hY HS HB HOK hgr
      go_wp2_with fail
      refine (around_any d 7 _ hd.1 hd.2 (by omega) (by omega)).mono ?_
      rintro e w' ⟨dd, _, hdd, rfl, rfl⟩
      clear y0_
      have y1_ := HY1.out.cell 1 _ rfl
      by_cases h45 : dd = 4 ∨ dd = 5
      · by_cases hin : 0 ≤ num ∧ num < m
        · obtain ⟨kq, rfl⟩ : ∃ kq : Nat, num = kq := ⟨num.toNat, by omega⟩
          obtain ⟨q, rfl⟩ : ∃ q, m = q + 1 := ⟨m - 1, by omega⟩
          have hkq : kq ≤ q := by omega
          have hxl := HS1.out.len
          obtain ⟨y, hy⟩ : ∃ y, xs[kq]? = some y := ⟨_, List.getElem?_eq_getElem (by omega)⟩
          obtain ⟨hyn, hyd⟩ := HS1.out.xb y (List.mem_of_getElem? hy)
          obtain ⟨ro, hro, hrow⟩ := HS1.out.r2 kq y hy
          obtain ⟨rr, hrr, hrrow⟩ := HS1.out.r1 kq y hy
          obtain ⟨y0, y1, y2, y3, y4, y5, y6, y7, y8, y9, y10, yn, yns, yd⟩ := y
          obtain ⟨Xn, xn, xc, Xd, xd, xe, rfl, hXN, hXD⟩ := hrow
          obtain ⟨Pn, pn_, pc, Pd, pd_, pe, rfl, hPN, hPD⟩ := hrrow
          have hpn8 : pn_ ≤ 8 := by have := hPN.len; rw [sv_length] at this; have h8 : yns.length ≤ 8 := hyn; omega
          have HRO := Lib.hid hro
          have HRR := Lib.hid hrr
          have HXN := Lib.hid hXN
          have HXD := Lib.hid hXD
          have HPN := Lib.hid hPN
          have HPD := Lib.hid hPD
          simp only [askC] at HRO HRR
          clear hy hro hrr hXN hXD hPN hPD hin
          rcases h45 with rfl | rfl
          all_goals
            as_aux_lemma =>
              go_wp2_with fail
              refine (refPick_in A (q + 1) c q kq os (.int .i64 y0) (.int .i64 y1) (.int .i64 y2) (.int .i64 y3) (.int .i64 y4) (.int .i64 y5) (.int .i64 y6) (.int .i64 y7) (.int .i64 y8) (.int .i64 y9) (.string (st yn)) (.slice Xn xn xc) (.int .i64 y10) (.slice Xd xd xe) _ HS1.out.own.rd hcap.1 hm8 rfl hkq HRO.out HS1.out.oneO).mono ?_
              rintro e w2 ⟨A2, c2, rs2, hrs2, rfl, hO2, hb2⟩
              have hBz := Blk.new w2 32 [.int .i64 0, .int .i64 0, .int .i64 0, .int .i64 0, .int .i64 0, .int .i64 0, .int .i64 0, .int .i64 0, .int .i64 0, .int .i64 0, .string ByteArray.empty, .slice none 0 0, .int .i64 0, .slice none 0 0]
              have hbS : Below w2.heap.size w2 ((w2.alloc (.cells #[.int .i64 0, .int .i64 0, .int .i64 0, .int .i64 0, .int .i64 0, .int .i64 0, .int .i64 0, .int .i64 0, .int .i64 0, .int .i64 0, .string ByteArray.empty, .slice none 0 0, .int .i64 0, .slice none 0 0] 32)).setRow w2.heap.size #[.int .i64 y0, .int .i64 y1, .int .i64 y2, .int .i64 y3, .int .i64 y4, .int .i64 y5, .int .i64 y6, .int .i64 y7, .int .i64 y8, .int .i64 y9, .string (st yn), .slice Xn xn xc, .int .i64 y10, .slice Xd xd xe]) := below_setRow ((Below.refl _ _).alloc (Nat.le_refl _) _) (Nat.le_refl _) _
              have hW := hBz.setRow [.int .i64 y0, .int .i64 y1, .int .i64 y2, .int .i64 y3, .int .i64 y4, .int .i64 y5, .int .i64 y6, .int .i64 y7, .int .i64 y8, .int .i64 y9, .string (st yn), .slice Xn xn xc, .int .i64 y10, .slice Xd xd xe]
              have hw12 := hb2.size
              obtain ⟨gW, hgW⟩ : ∃ g, g = w2.heap.size := ⟨_, rfl⟩
              go_upto_region 18 with (refine wpList_storeBlk rfl (.tmp 12) (.tmp 75) rfl rfl [.int .i64 y0, .int .i64 y1, .int .i64 y2, .int .i64 y3, .int .i64 y4, .int .i64 y5, .int .i64 y6, .int .i64 y7, .int .i64 y8, .int .i64 y9, .string (st yn), .slice Xn xn xc, .int .i64 y10, .slice Xd xd xe] rfl rfl (by kernel_rfl) hBz rfl (by simp [Value.oneCell']) ?_)
              clear hBz y1_
              generalize (w2.alloc (.cells #[.int .i64 0, .int .i64 0, .int .i64 0, .int .i64 0, .int .i64 0, .int .i64 0, .int .i64 0, .int .i64 0, .int .i64 0, .int .i64 0, .string ByteArray.empty, .slice none 0 0, .int .i64 0, .slice none 0 0] 32)).setRow w2.heap.size #[.int .i64 y0, .int .i64 y1, .int .i64 y2, .int .i64 y3, .int .i64 y4, .int .i64 y5, .int .i64 y6, .int .i64 y7, .int .i64 y8, .int .i64 y9, .string (st yn), .slice Xn xn xc, .int .i64 y10, .slice Xd xd xe] = w3 at hbS hW
              rw [← hgW] at hW ⊢
              have hgW1 : g < gW := by omega
              clear hgW
              have hb13 := Up.trans hb2 hbS
              have HS3 := Lib.hid (HS1.out.up hb13)
              have HB3 := Lib.hid (HB1.out.trans (hb13.mono HB1.out.size))
              have HY3 := Lib.hid (HY1.out.up hb13)
              have HO3 := Lib.hid ((hO2.up hbS).lower (show g + 1 ≤ w1.heap.size from hgr1))
              have HXN3 := Lib.hid (HXN.out.up hb13)
              have HXD3 := Lib.hid (OwB.up HXD.out hb13)
              have HPN3 := Lib.hid (HPN.out.up hb13)
              have HPD3 := Lib.hid (OwB.up HPD.out hb13)
              have HW3 := Lib.hid hW
              have hgr3 := HS3.out.tg.lt
              clear hb2 hbS hb13 hW hO2
              have y1_ := HY3.out.cell 1 _ rfl
              go_wp2_with fail
              refine (pick_any g rows (q + 1) q k kq (.int .i64 y0) (.int .i64 y1) (.int .i64 y2) (.int .i64 y3) (.int .i64 y4) (.int .i64 y5) (.int .i64 y6) (.int .i64 y7) (.int .i64 y8) (.int .i64 y9) (.string (st yn)) (.slice Pn pn_ pc) (.int .i64 y10) (.slice Pd pd_ pe) _ HS3.out.tg rfl hkq HRR.out HS3.out.one).mono ?_
              rintro e w4 ⟨rfl, rows4, hE4, hM4, hT4, hK4⟩
              have hng : ∀ b, g + 1 ≤ b → ¬ Is g b := fun b hb h => by have h' : b = g := h; omega
              have hS4 : PlS w4 g k q c2 A2 rows4 rs2 (xs.eraseIdx kq) := HS3.out.taken rfl hkq hK4 hT4 hE4.out hM4.out (HO3.out.keeps hK4 hng) hrs2.out
              have hBz := Blk.new w4 32 [.int .i64 0, .int .i64 0, .int .i64 0, .int .i64 0, .int .i64 0, .int .i64 0, .int .i64 0, .int .i64 0, .int .i64 0, .int .i64 0, .string ByteArray.empty, .slice none 0 0, .int .i64 0, .slice none 0 0]
              have hbS : Below w4.heap.size w4 ((w4.alloc (.cells #[.int .i64 0, .int .i64 0, .int .i64 0, .int .i64 0, .int .i64 0, .int .i64 0, .int .i64 0, .int .i64 0, .int .i64 0, .int .i64 0, .string ByteArray.empty, .slice none 0 0, .int .i64 0, .slice none 0 0] 32)).setRow w4.heap.size #[.int .i64 y0, .int .i64 y1, .int .i64 y2, .int .i64 y3, .int .i64 y4, .int .i64 y5, .int .i64 y6, .int .i64 y7, .int .i64 y8, .int .i64 y9, .string (st yn), .slice Pn pn_ pc, .int .i64 y10, .slice Pd pd_ pe]) := below_setRow ((Below.refl _ _).alloc (Nat.le_refl _) _) (Nat.le_refl _) _
              have hV := hBz.setRow [.int .i64 y0, .int .i64 y1, .int .i64 y2, .int .i64 y3, .int .i64 y4, .int .i64 y5, .int .i64 y6, .int .i64 y7, .int .i64 y8, .int .i64 y9, .string (st yn), .slice Pn pn_ pc, .int .i64 y10, .slice Pd pd_ pe]
              obtain ⟨gV, hgV⟩ : ∃ g, g = w4.heap.size := ⟨_, rfl⟩
              have hXN4 : OwV w4 (g + 1) 9 Xn xn xc (sv yns) := Own.keeps HXN3.out hK4 hng
              have hXD4 : OwB w4 (g + 1) Xd xd xe yd := Own.keeps HXD3.out hK4 hng
              have hPN4 : OwV w4 (g + 1) 9 Pn pn_ pc (sv yns) := Own.keeps HPN3.out hK4 hng
              have hPD4 : OwB w4 (g + 1) Pd pd_ pe yd := Own.keeps HPD3.out hK4 hng
              have hW4 := HW3.out.keeps hK4 (show ¬ gW = g by omega)
              have hY4 := HY3.out.keeps hK4 (show ¬ gO = g by omega)
              have hB4 := HB3.out.trans (hK4.is hgle (Nat.le_of_lt hgr3))
              clear hT4 hK4 hE4 hM4
              go_upto_region 20 with (refine wpList_storeBlk rfl (.tmp 14) (.tmp 83) rfl rfl [.int .i64 y0, .int .i64 y1, .int .i64 y2, .int .i64 y3, .int .i64 y4, .int .i64 y5, .int .i64 y6, .int .i64 y7, .int .i64 y8, .int .i64 y9, .string (st yn), .slice Pn pn_ pc, .int .i64 y10, .slice Pd pd_ pe] rfl rfl (by kernel_rfl) hBz rfl (by simp [Value.oneCell']) ?_)
              clear hBz y1_
              generalize (w4.alloc (.cells #[.int .i64 0, .int .i64 0, .int .i64 0, .int .i64 0, .int .i64 0, .int .i64 0, .int .i64 0, .int .i64 0, .int .i64 0, .int .i64 0, .string ByteArray.empty, .slice none 0 0, .int .i64 0, .slice none 0 0] 32)).setRow w4.heap.size #[.int .i64 y0, .int .i64 y1, .int .i64 y2, .int .i64 y3, .int .i64 y4, .int .i64 y5, .int .i64 y6, .int .i64 y7, .int .i64 y8, .int .i64 y9, .string (st yn), .slice Pn pn_ pc, .int .i64 y10, .slice Pd pd_ pe] = w5 at hbS hV
              rw [← hgV] at hV ⊢
              clear hgV
              have HS5 := Lib.hid (hS4.up hbS)
              have HB5 := Lib.hid (hB4.trans (hbS.mono hB4.size))
              have HY5 := Lib.hid (hY4.up hbS)
              have HXN5 := Lib.hid (OwV.up hXN4 hbS)
              have HXD5 := Lib.hid (OwB.up hXD4 hbS)
              have HPN5 := Lib.hid (OwV.up hPN4 hbS)
              have HPD5 := Lib.hid (OwB.up hPD4 hbS)
              have hW5 := hW4.up hbS
              have v0_ := hV.cell 0 _ rfl
              have s0_ := hW5.cell 0 _ rfl
              have v1_ := hV.cell 1 _ rfl
              have s1_ := hW5.cell 1 _ rfl
              have v2_ := hV.cell 2 _ rfl
              have s2_ := hW5.cell 2 _ rfl
              have v3_ := hV.cell 3 _ rfl
              have s3_ := hW5.cell 3 _ rfl
              have v4_ := hV.cell 4 _ rfl
              have s4_ := hW5.cell 4 _ rfl
              have v5_ := hV.cell 5 _ rfl
              have s5_ := hW5.cell 5 _ rfl
              have v6_ := hV.cell 6 _ rfl
              have s6_ := hW5.cell 6 _ rfl
              have v7_ := hV.cell 7 _ rfl
              have s7_ := hW5.cell 7 _ rfl
              have v8_ := hV.cell 8 _ rfl
              have s8_ := hW5.cell 8 _ rfl
              have v9_ := hV.cell 9 _ rfl
              have s9_ := hW5.cell 9 _ rfl
              have v10_ := hV.cell 10 _ rfl
              have s10_ := hW5.cell 10 _ rfl
              have v11_ := hV.cell 11 _ rfl
              have s11_ := hW5.cell 11 _ rfl
              have v12_ := hV.cell 12 _ rfl
              have s12_ := hW5.cell 12 _ rfl
              have v13_ := hV.cell 13 _ rfl
              have s13_ := hW5.cell 13 _ rfl
              clear hW5 hV hS4 hB4 hY4 hXN4 hXD4 hPN4 hPD4 hW4 hbS
              go_wp2_with fail
              refine (same_eq y0 y1 y2 y3 y4 y5 y6 y7 y8 y9 y10 yn yns yd Pn pn_ pc Pd pd_ pe Xn xn xc Xd xd xe _ HPN5.out.rd HXN5.out.rd (OwB.rd HPD5.out) (OwB.rd HXD5.out) (by omega)).mono ?_
              rintro e w6 ⟨rfl, hb6⟩
              have HS6 := Lib.hid (HS5.out.up hb6)
              have HB6 := Lib.hid (HB5.out.trans (hb6.mono HB5.out.size))
              have HY6 := Lib.hid (HY5.out.up hb6)
              clear hb6 v0_ s0_ v1_ s1_ v2_ s2_ v3_ s3_ v4_ s4_ v5_ s5_ v6_ s6_ v7_ s7_ v8_ s8_ v9_ s9_ v10_ s10_ v11_ s11_ v12_ s12_ v13_ s13_
              go_upto_region 27 with fail
              have HZS := Lib.hid (HS6.out)
              have HZY := Lib.hid (HY6.out)
              have HZB := Lib.hid (HB6.out)
              obtain ⟨P, D, hP, hD, hPD⟩ : ∃ (P : Int) (D : Bool), placeL (((xs.eraseIdx kq)).map AskV.tag) (kq : Int) = P ∧ decide ((kq : Int) ∈ ((xs.eraseIdx kq)).map AskV.tag) = D ∧ ((D = true ∧ 0 ≤ P) ∨ (D = false ∧ P = -1)) := by
                refine ⟨_, _, rfl, rfl, ?_⟩
                by_cases hin : (kq : Int) ∈ ((xs.eraseIdx kq)).map AskV.tag
                · exact .inl ⟨by simpa using hin, placeL_some hin⟩
                · exact .inr ⟨by simpa using hin, placeL_none hin⟩
              have HP := Lib.hid hP
              have HD := Lib.hid hD
              clear hP hD
              refine wp_region_tq NoG (.t 0 (.t 1 (.s 2 (.t 3 (.t 4 (.t 5 (.t 6 (.t 7 (.t 9 (.t 10 (.t 11 (.s 8 (.s 12 (.t 13 (.t 14 (.t 15 .nil)))))))))))))))) (by kernel_rfl) (by kernel_rfl) ?_
              repeat (refine tq_take (by simp only [List.getElem?_toArray, List.getElem?_cons_succ, List.getElem?_cons_zero]; exact rfl) ?_; go_big_quiet_step (fail); refine wpQuiet_nil ?_)
              refine tq_solo (by simp only [List.getElem?_toArray, List.getElem?_cons_succ, List.getElem?_cons_zero]; exact rfl) ?_
              go_wp2_with fail
              refine (like_any g rows4 q k _ A2 c2 rs2 _ HZS.out.drew.tg HZS.out.drew.tr HZS.out.drew.own.rd HZS.out.drew.to).mono ?_
              rintro e wl ⟨rfl, hbl⟩
              have hYl := HZY.out.drew.up hbl
              have y1l := hYl.abv 1 _ rfl
              have HYl := Lib.hid hYl
              have HSl := Lib.hid (HZS.out.drew.up hbl)
              have Hbl := Lib.hid hbl
              have HBl := Lib.hid (HZB.out.drew.trans (hbl.mono (show w.heap.size ≤ (w6).drew.heap.size from HZB.out.size)))
              clear hYl hbl
              go_wp2
              refine Solo.up Hbl.out ?_
              repeat (refine tq_take (by simp only [List.getElem?_toArray, List.getElem?_cons_succ, List.getElem?_cons_zero]; exact rfl) ?_; go_big_quiet_step (fail); refine wpQuiet_nil ?_)
              clear y1l
              refine tq_solo (by simp only [List.getElem?_toArray, List.getElem?_cons_succ, List.getElem?_cons_zero]; exact rfl) ?_
              go_wp2_with fail
              refine (has_tag g rows4 q k _ (kq : Int) _ HSl.out.tg HSl.out.tr).mono ?_
              rintro e wm ⟨rfl, hbm⟩
              rw [HD.out]
              have HSm := Lib.hid (HSl.out.up hbm)
              have HBm := Lib.hid (HBl.out.trans (hbm.mono HBl.out.size))
              have Hbm := Lib.hid hbm
              clear hbm
              go_wp2
              refine Solo.up Hbm.out ?_
              refine tq_solo (by simp only [List.getElem?_toArray, List.getElem?_cons_succ, List.getElem?_cons_zero]; exact rfl) ?_
              go_wp2_with fail
              refine (refFind_any A2 q c2 rs2 _ (kq : Int) _ HSm.out.own.rd HSm.out.to (by have := HSm.out.m8; omega)).mono ?_
              rintro e wf ⟨rfl, rfl⟩
              rw [HP.out]
              have hj24 := j24
              rcases hPD with ⟨rfl, hP0⟩ | ⟨rfl, rfl⟩
              all_goals
                go_wp2
                refine Solo.up (Below.refl _ _) ?_
                repeat (refine tq_take (by simp only [List.getElem?_toArray, List.getElem?_cons_succ, List.getElem?_cons_zero]; exact rfl) ?_; go_big_quiet_step (fail); refine wpQuiet_nil ?_)
                refine tq_end ?_
                go_wp2
                go_roundw
                case rel => exact ⟨j + 1, q, c2, A2, rows4, rs2, (xs.eraseIdx kq), by omega, by omega, by go_num, rfl, HSm.out, HBm.out⟩
                case measure => simp [intOf]; omega
        · have hin2 : num < 0 ∨ (m : Int) ≤ num := by omega
          clear hin
          rcases h45 with rfl | rfl
          all_goals
            as_aux_lemma =>
              go_wp2_with fail
              refine (refPick_none A m c num _ hin2).mono ?_
              rintro e w2 ⟨rfl, hb2⟩
              have hBz := Blk.new w2 32 [.int .i64 0, .int .i64 0, .int .i64 0, .int .i64 0, .int .i64 0, .int .i64 0, .int .i64 0, .int .i64 0, .int .i64 0, .int .i64 0, .string ByteArray.empty, .slice none 0 0, .int .i64 0, .slice none 0 0]
              have hbS : Below w2.heap.size w2 ((w2.alloc (.cells #[.int .i64 0, .int .i64 0, .int .i64 0, .int .i64 0, .int .i64 0, .int .i64 0, .int .i64 0, .int .i64 0, .int .i64 0, .int .i64 0, .string ByteArray.empty, .slice none 0 0, .int .i64 0, .slice none 0 0] 32)).setRow w2.heap.size #[.int .i64 0, .int .i64 0, .int .i64 0, .int .i64 0, .int .i64 0, .int .i64 0, .int .i64 0, .int .i64 0, .int .i64 0, .int .i64 0, .string ByteArray.empty, .slice none 0 0, .int .i64 0, .slice none 0 0]) := below_setRow ((Below.refl _ _).alloc (Nat.le_refl _) _) (Nat.le_refl _) _
              have hW := hBz.setRow [.int .i64 0, .int .i64 0, .int .i64 0, .int .i64 0, .int .i64 0, .int .i64 0, .int .i64 0, .int .i64 0, .int .i64 0, .int .i64 0, .string ByteArray.empty, .slice none 0 0, .int .i64 0, .slice none 0 0]
              obtain ⟨gW, hgW⟩ : ∃ g, g = w2.heap.size := ⟨_, rfl⟩
              go_upto_region 18 with (refine wpList_storeBlk rfl (.tmp 12) (.tmp 75) rfl rfl [.int .i64 0, .int .i64 0, .int .i64 0, .int .i64 0, .int .i64 0, .int .i64 0, .int .i64 0, .int .i64 0, .int .i64 0, .int .i64 0, .string ByteArray.empty, .slice none 0 0, .int .i64 0, .slice none 0 0] rfl rfl (by kernel_rfl) hBz rfl (by simp [Value.oneCell']) ?_)
              clear hBz y1_
              generalize (w2.alloc (.cells #[.int .i64 0, .int .i64 0, .int .i64 0, .int .i64 0, .int .i64 0, .int .i64 0, .int .i64 0, .int .i64 0, .int .i64 0, .int .i64 0, .string ByteArray.empty, .slice none 0 0, .int .i64 0, .slice none 0 0] 32)).setRow w2.heap.size #[.int .i64 0, .int .i64 0, .int .i64 0, .int .i64 0, .int .i64 0, .int .i64 0, .int .i64 0, .int .i64 0, .int .i64 0, .int .i64 0, .string ByteArray.empty, .slice none 0 0, .int .i64 0, .slice none 0 0] = w3 at hbS hW
              rw [← hgW] at hW ⊢
              clear hgW
              have hb13 := Up.trans hb2 hbS
              have HS3 := Lib.hid (HS1.out.up hb13)
              have HB3 := Lib.hid (HB1.out.trans (hb13.mono HB1.out.size))
              have HY3 := Lib.hid (HY1.out.up hb13)
              have HW3 := Lib.hid hW
              clear hb2 hbS hb13 hW
              have y1_ := HY3.out.cell 1 _ rfl
              go_wp2_with fail
              refine (pick_none g rows m k num _ HS3.out.tg hin2).mono ?_
              rintro e w4 ⟨rfl, hb4⟩
              simp only [askZ]
              have hBz := Blk.new w4 32 [.int .i64 0, .int .i64 0, .int .i64 0, .int .i64 0, .int .i64 0, .int .i64 0, .int .i64 0, .int .i64 0, .int .i64 0, .int .i64 0, .string ByteArray.empty, .slice none 0 0, .int .i64 0, .slice none 0 0]
              have hbS : Below w4.heap.size w4 ((w4.alloc (.cells #[.int .i64 0, .int .i64 0, .int .i64 0, .int .i64 0, .int .i64 0, .int .i64 0, .int .i64 0, .int .i64 0, .int .i64 0, .int .i64 0, .string ByteArray.empty, .slice none 0 0, .int .i64 0, .slice none 0 0] 32)).setRow w4.heap.size #[.int .i64 0, .int .i64 0, .int .i64 0, .int .i64 0, .int .i64 0, .int .i64 0, .int .i64 0, .int .i64 0, .int .i64 0, .int .i64 0, .string ByteArray.empty, .slice none 0 0, .int .i64 0, .slice none 0 0]) := below_setRow ((Below.refl _ _).alloc (Nat.le_refl _) _) (Nat.le_refl _) _
              have hV := hBz.setRow [.int .i64 0, .int .i64 0, .int .i64 0, .int .i64 0, .int .i64 0, .int .i64 0, .int .i64 0, .int .i64 0, .int .i64 0, .int .i64 0, .string ByteArray.empty, .slice none 0 0, .int .i64 0, .slice none 0 0]
              obtain ⟨gV, hgV⟩ : ∃ g, g = w4.heap.size := ⟨_, rfl⟩
              have hb34 := Up.trans hb4 hbS
              go_upto_region 20 with (refine wpList_storeBlk rfl (.tmp 14) (.tmp 83) rfl rfl [.int .i64 0, .int .i64 0, .int .i64 0, .int .i64 0, .int .i64 0, .int .i64 0, .int .i64 0, .int .i64 0, .int .i64 0, .int .i64 0, .string ByteArray.empty, .slice none 0 0, .int .i64 0, .slice none 0 0] rfl rfl (by kernel_rfl) hBz rfl (by simp [Value.oneCell']) ?_)
              clear hBz y1_
              generalize (w4.alloc (.cells #[.int .i64 0, .int .i64 0, .int .i64 0, .int .i64 0, .int .i64 0, .int .i64 0, .int .i64 0, .int .i64 0, .int .i64 0, .int .i64 0, .string ByteArray.empty, .slice none 0 0, .int .i64 0, .slice none 0 0] 32)).setRow w4.heap.size #[.int .i64 0, .int .i64 0, .int .i64 0, .int .i64 0, .int .i64 0, .int .i64 0, .int .i64 0, .int .i64 0, .int .i64 0, .int .i64 0, .string ByteArray.empty, .slice none 0 0, .int .i64 0, .slice none 0 0] = w5 at hbS hV hb34
              rw [← hgV] at hV ⊢
              clear hgV
              have HS5 := Lib.hid (HS3.out.up hb34)
              have HB5 := Lib.hid (HB3.out.trans (hb34.mono HB3.out.size))
              have HY5 := Lib.hid (HY3.out.up hb34)
              have hW5 := HW3.out.up hb34
              have v0_ := hV.cell 0 _ rfl
              have s0_ := hW5.cell 0 _ rfl
              have v1_ := hV.cell 1 _ rfl
              have s1_ := hW5.cell 1 _ rfl
              have v2_ := hV.cell 2 _ rfl
              have s2_ := hW5.cell 2 _ rfl
              have v3_ := hV.cell 3 _ rfl
              have s3_ := hW5.cell 3 _ rfl
              have v4_ := hV.cell 4 _ rfl
              have s4_ := hW5.cell 4 _ rfl
              have v5_ := hV.cell 5 _ rfl
              have s5_ := hW5.cell 5 _ rfl
              have v6_ := hV.cell 6 _ rfl
              have s6_ := hW5.cell 6 _ rfl
              have v7_ := hV.cell 7 _ rfl
              have s7_ := hW5.cell 7 _ rfl
              have v8_ := hV.cell 8 _ rfl
              have s8_ := hW5.cell 8 _ rfl
              have v9_ := hV.cell 9 _ rfl
              have s9_ := hW5.cell 9 _ rfl
              have v10_ := hV.cell 10 _ rfl
              have s10_ := hW5.cell 10 _ rfl
              have v11_ := hV.cell 11 _ rfl
              have s11_ := hW5.cell 11 _ rfl
              have v12_ := hV.cell 12 _ rfl
              have s12_ := hW5.cell 12 _ rfl
              have v13_ := hV.cell 13 _ rfl
              have s13_ := hW5.cell 13 _ rfl
              clear hW5 hV hbS hb34 hb4
              go_wp2_with fail
              refine (same_eq 0 0 0 0 0 0 0 0 0 0 0 [] [] [] none 0 0 none 0 0 none 0 0 none 0 0 _ RdV.nil RdV.nil RdB.nil RdB.nil (by omega)).mono ?_
              rintro e w6 ⟨rfl, hb6⟩
              have HS6 := Lib.hid (HS5.out.up hb6)
              have HB6 := Lib.hid (HB5.out.trans (hb6.mono HB5.out.size))
              have HY6 := Lib.hid (HY5.out.up hb6)
              clear hb6 v0_ s0_ v1_ s1_ v2_ s2_ v3_ s3_ v4_ s4_ v5_ s5_ v6_ s6_ v7_ s7_ v8_ s8_ v9_ s9_ v10_ s10_ v11_ s11_ v12_ s12_ v13_ s13_
              go_upto_region 27 with fail
              have HZS := Lib.hid (HS6.out)
              have HZY := Lib.hid (HY6.out)
              have HZB := Lib.hid (HB6.out)
              obtain ⟨P, D, hP, hD, hPD⟩ : ∃ (P : Int) (D : Bool), placeL ((xs).map AskV.tag) num = P ∧ decide (num ∈ (xs).map AskV.tag) = D ∧ ((D = true ∧ 0 ≤ P) ∨ (D = false ∧ P = -1)) := by
                refine ⟨_, _, rfl, rfl, ?_⟩
                by_cases hin : num ∈ (xs).map AskV.tag
                · exact .inl ⟨by simpa using hin, placeL_some hin⟩
                · exact .inr ⟨by simpa using hin, placeL_none hin⟩
              have HP := Lib.hid hP
              have HD := Lib.hid hD
              clear hP hD
              refine wp_region_tq NoG (.t 0 (.t 1 (.s 2 (.t 3 (.t 4 (.t 5 (.t 6 (.t 7 (.t 9 (.t 10 (.t 11 (.s 8 (.s 12 (.t 13 (.t 14 (.t 15 .nil)))))))))))))))) (by kernel_rfl) (by kernel_rfl) ?_
              repeat (refine tq_take (by simp only [List.getElem?_toArray, List.getElem?_cons_succ, List.getElem?_cons_zero]; exact rfl) ?_; go_big_quiet_step (fail); refine wpQuiet_nil ?_)
              refine tq_solo (by simp only [List.getElem?_toArray, List.getElem?_cons_succ, List.getElem?_cons_zero]; exact rfl) ?_
              go_wp2_with fail
              refine (like_any g rows m k _ A c os _ HZS.out.drew.tg HZS.out.drew.tr HZS.out.drew.own.rd HZS.out.drew.to).mono ?_
              rintro e wl ⟨rfl, hbl⟩
              have hYl := HZY.out.drew.up hbl
              have y1l := hYl.abv 1 _ rfl
              have HYl := Lib.hid hYl
              have HSl := Lib.hid (HZS.out.drew.up hbl)
              have Hbl := Lib.hid hbl
              have HBl := Lib.hid (HZB.out.drew.trans (hbl.mono (show w.heap.size ≤ (w6).drew.heap.size from HZB.out.size)))
              clear hYl hbl
              go_wp2
              refine Solo.up Hbl.out ?_
              repeat (refine tq_take (by simp only [List.getElem?_toArray, List.getElem?_cons_succ, List.getElem?_cons_zero]; exact rfl) ?_; go_big_quiet_step (fail); refine wpQuiet_nil ?_)
              clear y1l
              refine tq_solo (by simp only [List.getElem?_toArray, List.getElem?_cons_succ, List.getElem?_cons_zero]; exact rfl) ?_
              go_wp2_with fail
              refine (has_tag g rows m k _ num _ HSl.out.tg HSl.out.tr).mono ?_
              rintro e wm ⟨rfl, hbm⟩
              rw [HD.out]
              have HSm := Lib.hid (HSl.out.up hbm)
              have HBm := Lib.hid (HBl.out.trans (hbm.mono HBl.out.size))
              have Hbm := Lib.hid hbm
              clear hbm
              go_wp2
              refine Solo.up Hbm.out ?_
              refine tq_solo (by simp only [List.getElem?_toArray, List.getElem?_cons_succ, List.getElem?_cons_zero]; exact rfl) ?_
              go_wp2_with fail
              refine (refFind_any A m c os _ num _ HSm.out.own.rd HSm.out.to (by have := HSm.out.m8; omega)).mono ?_
              rintro e wf ⟨rfl, rfl⟩
              rw [HP.out]
              have hj24 := j24
              rcases hPD with ⟨rfl, hP0⟩ | ⟨rfl, rfl⟩
              all_goals
                go_wp2
                refine Solo.up (Below.refl _ _) ?_
                repeat (refine tq_take (by simp only [List.getElem?_toArray, List.getElem?_cons_succ, List.getElem?_cons_zero]; exact rfl) ?_; go_big_quiet_step (fail); refine wpQuiet_nil ?_)
                refine tq_end ?_
                go_wp2
                go_roundw
                case rel => exact ⟨j + 1, m, c, A, rows, os, xs, by omega, by omega, by go_num, rfl, HSm.out, HBm.out⟩
                case measure => simp [intOf]; omega
      · have h4 : ¬ (dd : Int) = 4 := by omega
        have h5 : ¬ (dd : Int) = 5 := by omega
        have h4b : ((dd : Int) == 4) = false := by simpa using h4
        have h5b : ((dd : Int) == 5) = false := by simpa using h5
        by_cases h6 : dd = 6
        · subst h6
          by_cases hin : num ∈ xs.map AskV.tag
          · as_aux_lemma =>
              obtain ⟨kq, hpk, hkl⟩ := placeL_idx hin
              have hkm : kq < m := by rw [List.length_map, HS1.out.len] at hkl; exact hkl
              obtain ⟨q, rfl⟩ : ∃ q, m = q + 1 := ⟨m - 1, by omega⟩
              have hkq : kq ≤ q := by omega
              have HPK := Lib.hid hpk
              clear hpk hin hkl
              go_wp2_with fail
              refine (refFlush_in A (q + 1) c q kq os (xs.map AskV.tag) num _ HS1.out.own.rd HS1.out.to hcap.1 hm8 rfl hkq HPK.out HS1.out.oneO).mono ?_
              rintro e w2 ⟨A2, c2, rs2, hrs2, rfl, hO2, hb2⟩
              have HS2 := Lib.hid (HS1.out.up hb2)
              have HB2 := Lib.hid (HB1.out.trans (hb2.mono HB1.out.size))
              have HY2 := Lib.hid (HY1.out.up hb2)
              have HO2 := Lib.hid (hO2.lower (show g + 1 ≤ w1.heap.size from hgr1))
              have hgr2 := HS2.out.tg.lt
              clear hb2 hO2 y1_
              have y1_ := HY2.out.cell 1 _ rfl
              go_wp2_with fail
              refine (flush_any g rows (q + 1) q k kq (xs.map AskV.tag) num _ HS2.out.tg HS2.out.tr rfl hkq HPK.out HS2.out.one).mono ?_
              rintro e w4 ⟨rfl, rows4, hE4, hM4, hT4, hK4⟩
              have hng : ∀ b, g + 1 ≤ b → ¬ Is g b := fun b hb h => by have h' : b = g := h; omega
              have HS4 := Lib.hid (show PlS w4 g k q c2 A2 rows4 rs2 (xs.eraseIdx kq) from HS2.out.taken rfl hkq hK4 hT4 hE4.out hM4.out (HO2.out.keeps hK4 hng) hrs2.out)
              have HB4 := Lib.hid (HB2.out.trans (hK4.is hgle (Nat.le_of_lt hgr2)))
              have HY4 := Lib.hid (HY2.out.keeps hK4 (show ¬ gO = g by omega))
              clear hE4 hM4 hT4 hK4 y1_
              go_upto_region 27 with fail
              have HZS := Lib.hid (HS4.out)
              have HZY := Lib.hid (HY4.out)
              have HZB := Lib.hid (HB4.out)
              obtain ⟨P, D, hP, hD, hPD⟩ : ∃ (P : Int) (D : Bool), placeL (((xs.eraseIdx kq)).map AskV.tag) num = P ∧ decide (num ∈ ((xs.eraseIdx kq)).map AskV.tag) = D ∧ ((D = true ∧ 0 ≤ P) ∨ (D = false ∧ P = -1)) := by
                refine ⟨_, _, rfl, rfl, ?_⟩
                by_cases hin : num ∈ ((xs.eraseIdx kq)).map AskV.tag
                · exact .inl ⟨by simpa using hin, placeL_some hin⟩
                · exact .inr ⟨by simpa using hin, placeL_none hin⟩
              have HP := Lib.hid hP
              have HD := Lib.hid hD
              clear hP hD
              refine wp_region_tq NoG (.t 0 (.t 1 (.s 2 (.t 3 (.t 4 (.t 5 (.t 6 (.t 7 (.t 9 (.t 10 (.t 11 (.s 8 (.s 12 (.t 13 (.t 14 (.t 15 .nil)))))))))))))))) (by kernel_rfl) (by kernel_rfl) ?_
              repeat (refine tq_take (by simp only [List.getElem?_toArray, List.getElem?_cons_succ, List.getElem?_cons_zero]; exact rfl) ?_; go_big_quiet_step (fail); refine wpQuiet_nil ?_)
              refine tq_solo (by simp only [List.getElem?_toArray, List.getElem?_cons_succ, List.getElem?_cons_zero]; exact rfl) ?_
              go_wp2_with fail
              refine (like_any g rows4 q k _ A2 c2 rs2 _ HZS.out.drew.tg HZS.out.drew.tr HZS.out.drew.own.rd HZS.out.drew.to).mono ?_
              rintro e wl ⟨rfl, hbl⟩
              have hYl := HZY.out.drew.up hbl
              have y1l := hYl.abv 1 _ rfl
              have HYl := Lib.hid hYl
              have HSl := Lib.hid (HZS.out.drew.up hbl)
              have Hbl := Lib.hid hbl
              have HBl := Lib.hid (HZB.out.drew.trans (hbl.mono (show w.heap.size ≤ (w4).drew.heap.size from HZB.out.size)))
              clear hYl hbl
              go_wp2
              refine Solo.up Hbl.out ?_
              repeat (refine tq_take (by simp only [List.getElem?_toArray, List.getElem?_cons_succ, List.getElem?_cons_zero]; exact rfl) ?_; go_big_quiet_step (fail); refine wpQuiet_nil ?_)
              clear y1l
              refine tq_solo (by simp only [List.getElem?_toArray, List.getElem?_cons_succ, List.getElem?_cons_zero]; exact rfl) ?_
              go_wp2_with fail
              refine (has_tag g rows4 q k _ num _ HSl.out.tg HSl.out.tr).mono ?_
              rintro e wm ⟨rfl, hbm⟩
              rw [HD.out]
              have HSm := Lib.hid (HSl.out.up hbm)
              have HBm := Lib.hid (HBl.out.trans (hbm.mono HBl.out.size))
              have Hbm := Lib.hid hbm
              clear hbm
              go_wp2
              refine Solo.up Hbm.out ?_
              refine tq_solo (by simp only [List.getElem?_toArray, List.getElem?_cons_succ, List.getElem?_cons_zero]; exact rfl) ?_
              go_wp2_with fail
              refine (refFind_any A2 q c2 rs2 _ num _ HSm.out.own.rd HSm.out.to (by have := HSm.out.m8; omega)).mono ?_
              rintro e wf ⟨rfl, rfl⟩
              rw [HP.out]
              have hj24 := j24
              rcases hPD with ⟨rfl, hP0⟩ | ⟨rfl, rfl⟩
              all_goals
                go_wp2
                refine Solo.up (Below.refl _ _) ?_
                repeat (refine tq_take (by simp only [List.getElem?_toArray, List.getElem?_cons_succ, List.getElem?_cons_zero]; exact rfl) ?_; go_big_quiet_step (fail); refine wpQuiet_nil ?_)
                refine tq_end ?_
                go_wp2
                go_roundw
                case rel => exact ⟨j + 1, q, c2, A2, rows4, rs2, (xs.eraseIdx kq), by omega, by omega, by go_num, rfl, HSm.out, HBm.out⟩
                case measure => simp [intOf]; omega
          · as_aux_lemma =>
              have HIN := Lib.hid hin
              clear hin
              go_wp2_with fail
              refine (refFlush_out A m c os (xs.map AskV.tag) num _ HS1.out.own.rd HS1.out.to hm8 HIN.out).mono ?_
              rintro e w2 ⟨rfl, hb2⟩
              have HS2 := Lib.hid (HS1.out.up hb2)
              have HB2 := Lib.hid (HB1.out.trans (hb2.mono HB1.out.size))
              have HY2 := Lib.hid (HY1.out.up hb2)
              clear hb2 y1_
              have y1_ := HY2.out.cell 1 _ rfl
              go_wp2_with fail
              refine (flush_none g rows m k (xs.map AskV.tag) num _ HS2.out.tg HS2.out.tr HIN.out).mono ?_
              rintro e w4 ⟨rfl, rfl⟩
              clear y1_
              go_upto_region 27 with fail
              have HZS := Lib.hid (HS2.out)
              have HZY := Lib.hid (HY2.out)
              have HZB := Lib.hid (HB2.out)
              obtain ⟨P, D, hP, hD, hPD⟩ : ∃ (P : Int) (D : Bool), placeL ((xs).map AskV.tag) num = P ∧ decide (num ∈ (xs).map AskV.tag) = D ∧ ((D = true ∧ 0 ≤ P) ∨ (D = false ∧ P = -1)) := by
                refine ⟨_, _, rfl, rfl, ?_⟩
                by_cases hin : num ∈ (xs).map AskV.tag
                · exact .inl ⟨by simpa using hin, placeL_some hin⟩
                · exact .inr ⟨by simpa using hin, placeL_none hin⟩
              have HP := Lib.hid hP
              have HD := Lib.hid hD
              clear hP hD
              refine wp_region_tq NoG (.t 0 (.t 1 (.s 2 (.t 3 (.t 4 (.t 5 (.t 6 (.t 7 (.t 9 (.t 10 (.t 11 (.s 8 (.s 12 (.t 13 (.t 14 (.t 15 .nil)))))))))))))))) (by kernel_rfl) (by kernel_rfl) ?_
              repeat (refine tq_take (by simp only [List.getElem?_toArray, List.getElem?_cons_succ, List.getElem?_cons_zero]; exact rfl) ?_; go_big_quiet_step (fail); refine wpQuiet_nil ?_)
              refine tq_solo (by simp only [List.getElem?_toArray, List.getElem?_cons_succ, List.getElem?_cons_zero]; exact rfl) ?_
              go_wp2_with fail
              refine (like_any g rows m k _ A c os _ HZS.out.drew.tg HZS.out.drew.tr HZS.out.drew.own.rd HZS.out.drew.to).mono ?_
              rintro e wl ⟨rfl, hbl⟩
              have hYl := HZY.out.drew.up hbl
              have y1l := hYl.abv 1 _ rfl
              have HYl := Lib.hid hYl
              have HSl := Lib.hid (HZS.out.drew.up hbl)
              have Hbl := Lib.hid hbl
              have HBl := Lib.hid (HZB.out.drew.trans (hbl.mono (show w.heap.size ≤ (w2).drew.heap.size from HZB.out.size)))
              clear hYl hbl
              go_wp2
              refine Solo.up Hbl.out ?_
              repeat (refine tq_take (by simp only [List.getElem?_toArray, List.getElem?_cons_succ, List.getElem?_cons_zero]; exact rfl) ?_; go_big_quiet_step (fail); refine wpQuiet_nil ?_)
              clear y1l
              refine tq_solo (by simp only [List.getElem?_toArray, List.getElem?_cons_succ, List.getElem?_cons_zero]; exact rfl) ?_
              go_wp2_with fail
              refine (has_tag g rows m k _ num _ HSl.out.tg HSl.out.tr).mono ?_
              rintro e wm ⟨rfl, hbm⟩
              rw [HD.out]
              have HSm := Lib.hid (HSl.out.up hbm)
              have HBm := Lib.hid (HBl.out.trans (hbm.mono HBl.out.size))
              have Hbm := Lib.hid hbm
              clear hbm
              go_wp2
              refine Solo.up Hbm.out ?_
              refine tq_solo (by simp only [List.getElem?_toArray, List.getElem?_cons_succ, List.getElem?_cons_zero]; exact rfl) ?_
              go_wp2_with fail
              refine (refFind_any A m c os _ num _ HSm.out.own.rd HSm.out.to (by have := HSm.out.m8; omega)).mono ?_
              rintro e wf ⟨rfl, rfl⟩
              rw [HP.out]
              have hj24 := j24
              rcases hPD with ⟨rfl, hP0⟩ | ⟨rfl, rfl⟩
              all_goals
                go_wp2
                refine Solo.up (Below.refl _ _) ?_
                repeat (refine tq_take (by simp only [List.getElem?_toArray, List.getElem?_cons_succ, List.getElem?_cons_zero]; exact rfl) ?_; go_big_quiet_step (fail); refine wpQuiet_nil ?_)
                refine tq_end ?_
                go_wp2
                go_roundw
                case rel => exact ⟨j + 1, m, c, A, rows, os, xs, by omega, by omega, by go_num, rfl, HSm.out, HBm.out⟩
                case measure => simp [intOf]; omega
        · have h6b : ((dd : Int) == 6) = false := by simp; omega
          have h6' : ¬ (dd : Int) = 6 := by omega
          clear y1_
          have y0_ := HY1.out.cell 0 _ rfl
          have y1_ := HY1.out.cell 1 _ rfl
          have y2_ := HY1.out.cell 2 _ rfl
          have y3_ := HY1.out.cell 3 _ rfl
          have y4_ := HY1.out.cell 4 _ rfl
          have y5_ := HY1.out.cell 5 _ rfl
          have y6_ := HY1.out.cell 6 _ rfl
          have y7_ := HY1.out.cell 7 _ rfl
          have y8_ := HY1.out.cell 8 _ rfl
          have y9_ := HY1.out.cell 9 _ rfl
          have y10_ := HY1.out.cell 10 _ rfl
          have y11_ := HY1.out.cell 11 _ rfl
          have y12_ := HY1.out.cell 12 _ rfl
          have y13_ := HY1.out.cell 13 _ rfl
          have y14_ := HY1.out.cell 14 _ rfl
          have y15_ := HY1.out.cell 15 _ rfl
          have hok1 : AskOk w1 w1.heap.size ⟨p0, p1, p2, p3, p4, p5, p6, p7, p8, p9, p10, pn, pns, pd⟩ An nn cn Ad nd cd := by have := HOK1.out; exact { this with names := this.names.more HB1.out.size, data := this.data.more HB1.out.size }
          have HOKw := Lib.hid hok1
          clear hok1
          go_wp2_with fail
          refine (refAsk_any d num p0 p1 p2 p3 p4 p5 p6 p7 p8 p9 p10 pn pns pd An nn cn Ad nd cd _ HOKw.out).mono ?_
          rintro e w2 ⟨x1, Xn, xn, xc, Xd, xd, xe, hx1, rfl, hXN, hXD, hb2⟩
          have hxn : x1.names.length ≤ 8 := by rw [hx1.out]; exact good_names ⟨p0, p1, p2, p3, p4, p5, p6, p7, p8, p9, p10, pn, pns, pd⟩
          have hxd : x1.data.length ≤ 30 := by rw [hx1.out]; exact good_data ⟨p0, p1, p2, p3, p4, p5, p6, p7, p8, p9, p10, pn, pns, pd⟩
          obtain ⟨q0, q1, q2, q3, q4, q5, q6, q7, q8, q9, q10, qn, qns, qd⟩ := x1
          have hxn' : qns.length ≤ 8 := hxn
          have hxd' : qd.length ≤ 30 := hxd
          simp only [askC]
          have HS2 := Lib.hid (HS1.out.up hb2)
          have HB2 := Lib.hid (HB1.out.trans (hb2.mono HB1.out.size))
          have HY2 := Lib.hid (HY1.out.up hb2)
          have HOK2 := Lib.hid (HOK1.out.up (hb2.mono HB1.out.size))
          have HXN2 := Lib.hid (hXN.lower (show g + 1 ≤ w1.heap.size from hgr1))
          have HXD2 := Lib.hid (hXD.lower (show g + 1 ≤ w1.heap.size from hgr1))
          have hgr2 := HS2.out.tg.lt
          clear hb2 hXN hXD y0_ y1_ y2_ y3_ y4_ y5_ y6_ y7_ y8_ y9_ y10_ y11_ y12_ y13_ y14_ y15_ HOKw hxn hxd
          go_wp2_with fail
          refine (refPut_any A m c k os (xs.map AskV.tag) (.int .i64 q0) (.int .i64 q2) (.int .i64 q3) (.int .i64 q4) (.int .i64 q5) (.int .i64 q6) (.int .i64 q7) (.int .i64 q8) (.int .i64 q9) (.string (st qn)) (.slice Xn xn xc) (.int .i64 q10) (.slice Xd xd xe) q1 _ HS2.out.own.rd HS2.out.to hm8 k8 HS2.out.oneO (by simp [Value.oneCell'])).mono ?_
          rintro e w3 (⟨hin, rfl, hb3⟩ | ⟨hin, hfull, rfl, hb3⟩ | ⟨hin, hroom, A3, c3, rs3, hrs3, rfl, hO3, hb3⟩)
          · as_aux_lemma =>
              have HS3 := Lib.hid (HS2.out.up hb3)
              have HB3 := Lib.hid (HB2.out.trans (hb3.mono HB2.out.size))
              have HY3 := Lib.hid (HY2.out.up hb3)
              have hok3 : AskOk w3 w3.heap.size ⟨p0, p1, p2, p3, p4, p5, p6, p7, p8, p9, p10, pn, pns, pd⟩ An nn cn Ad nd cd := by have := HOK2.out.up (hb3.mono HB2.out.size); exact { this with names := this.names.more HB3.out.size, data := this.data.more HB3.out.size }
              have HOK3 := Lib.hid hok3
              have Hb3 := Lib.hid hb3
              clear hok3 hb3
              have y0_ := HY3.out.cell 0 _ rfl
              have y1_ := HY3.out.cell 1 _ rfl
              have y2_ := HY3.out.cell 2 _ rfl
              have y3_ := HY3.out.cell 3 _ rfl
              have y4_ := HY3.out.cell 4 _ rfl
              have y5_ := HY3.out.cell 5 _ rfl
              have y6_ := HY3.out.cell 6 _ rfl
              have y7_ := HY3.out.cell 7 _ rfl
              have y8_ := HY3.out.cell 8 _ rfl
              have y9_ := HY3.out.cell 9 _ rfl
              have y10_ := HY3.out.cell 10 _ rfl
              have y11_ := HY3.out.cell 11 _ rfl
              have y12_ := HY3.out.cell 12 _ rfl
              have y13_ := HY3.out.cell 13 _ rfl
              have y14_ := HY3.out.cell 14 _ rfl
              have y15_ := HY3.out.cell 15 _ rfl
              go_wp2_with fail
              refine (refAsk_any d num p0 p1 p2 p3 p4 p5 p6 p7 p8 p9 p10 pn pns pd An nn cn Ad nd cd _ HOK3.out).mono ?_
              rintro e w4 ⟨x2, Gn, gn_, gc, Gd, gd, ge, hx2, rfl, hGN, hGD, hb4⟩
              obtain rfl := hx2.out.trans hx1.out.symm
              simp only [askC]
              have HS4 := Lib.hid (HS3.out.up hb4)
              have HB4 := Lib.hid (HB3.out.trans (hb4.mono HB3.out.size))
              have HY4 := Lib.hid (HY3.out.up hb4)
              have HGN := Lib.hid hGN
              have HGD := Lib.hid hGD
              have Hb4 := Lib.hid hb4
              have hgn8 : gn_ ≤ 8 := by have h9 : (sv qns).length = gn_ := hGN.len; rw [sv_length] at h9; omega
              have hgd30 : gd ≤ 30 := by have h9 : qd.length = gd := OwB.len hGD; omega
              clear hb4 hGN hGD y0_ y1_ y2_ y3_ y4_ y5_ y6_ y7_ y8_ y9_ y10_ y11_ y12_ y13_ y14_ y15_
              go_wp2_with fail
              refine (put_any g rows m k (xs.map AskV.tag) q1 (.int .i64 q0) (.int .i64 q2) (.int .i64 q3) (.int .i64 q4) (.int .i64 q5) (.int .i64 q6) (.int .i64 q7) (.int .i64 q8) (.int .i64 q9) (.string (st qn)) (.int .i64 q10) Gn gn_ gc (sv qns) Gd gd ge qd _ HS4.out.tg HS4.out.tr (by simp [Value.oneCell']) HGN.out.rd (sv_one _) (by omega) (OwB.rd HGD.out) (by omega)).mono ?_
              rintro e w5 (⟨h1, rfl, hb5⟩ | ⟨h1, h2, h3, h4_⟩ | ⟨h1, h2, h3, _⟩)
              · have HS5 := Lib.hid (HS4.out.up hb5)
                have HB5 := Lib.hid (HB4.out.trans (hb5.mono HB4.out.size))
                have HY5 := Lib.hid (HY4.out.up hb5)
                clear hb5 h1
                go_upto_region 27 with fail
                have HZS := Lib.hid (HS5.out)
                have HZY := Lib.hid (HY5.out)
                have HZB := Lib.hid (HB5.out)
                obtain ⟨P, D, hP, hD, hPD⟩ : ∃ (P : Int) (D : Bool), placeL ((xs).map AskV.tag) num = P ∧ decide (num ∈ (xs).map AskV.tag) = D ∧ ((D = true ∧ 0 ≤ P) ∨ (D = false ∧ P = -1)) := by
                  refine ⟨_, _, rfl, rfl, ?_⟩
                  by_cases hin : num ∈ (xs).map AskV.tag
                  · exact .inl ⟨by simpa using hin, placeL_some hin⟩
                  · exact .inr ⟨by simpa using hin, placeL_none hin⟩
                have HP := Lib.hid hP
                have HD := Lib.hid hD
                clear hP hD
                refine wp_region_tq NoG (.t 0 (.t 1 (.s 2 (.t 3 (.t 4 (.t 5 (.t 6 (.t 7 (.t 9 (.t 10 (.t 11 (.s 8 (.s 12 (.t 13 (.t 14 (.t 15 .nil)))))))))))))))) (by kernel_rfl) (by kernel_rfl) ?_
                repeat (refine tq_take (by simp only [List.getElem?_toArray, List.getElem?_cons_succ, List.getElem?_cons_zero]; exact rfl) ?_; go_big_quiet_step (fail); refine wpQuiet_nil ?_)
                refine tq_solo (by simp only [List.getElem?_toArray, List.getElem?_cons_succ, List.getElem?_cons_zero]; exact rfl) ?_
                go_wp2_with fail
                refine (like_any g rows m k _ A c os _ HZS.out.drew.tg HZS.out.drew.tr HZS.out.drew.own.rd HZS.out.drew.to).mono ?_
                rintro e wl ⟨rfl, hbl⟩
                have hYl := HZY.out.drew.up hbl
                have y1l := hYl.abv 1 _ rfl
                have HYl := Lib.hid hYl
                have HSl := Lib.hid (HZS.out.drew.up hbl)
                have Hbl := Lib.hid hbl
                have HBl := Lib.hid (HZB.out.drew.trans (hbl.mono (show w.heap.size ≤ (w5).drew.heap.size from HZB.out.size)))
                clear hYl hbl
                go_wp2
                refine Solo.up Hbl.out ?_
                repeat (refine tq_take (by simp only [List.getElem?_toArray, List.getElem?_cons_succ, List.getElem?_cons_zero]; exact rfl) ?_; go_big_quiet_step (fail); refine wpQuiet_nil ?_)
                clear y1l
                refine tq_solo (by simp only [List.getElem?_toArray, List.getElem?_cons_succ, List.getElem?_cons_zero]; exact rfl) ?_
                go_wp2_with fail
                refine (has_tag g rows m k _ num _ HSl.out.tg HSl.out.tr).mono ?_
                rintro e wm ⟨rfl, hbm⟩
                rw [HD.out]
                have HSm := Lib.hid (HSl.out.up hbm)
                have HBm := Lib.hid (HBl.out.trans (hbm.mono HBl.out.size))
                have Hbm := Lib.hid hbm
                clear hbm
                go_wp2
                refine Solo.up Hbm.out ?_
                refine tq_solo (by simp only [List.getElem?_toArray, List.getElem?_cons_succ, List.getElem?_cons_zero]; exact rfl) ?_
                go_wp2_with fail
                refine (refFind_any A m c os _ num _ HSm.out.own.rd HSm.out.to (by have := HSm.out.m8; omega)).mono ?_
                rintro e wf ⟨rfl, rfl⟩
                rw [HP.out]
                have hj24 := j24
                rcases hPD with ⟨rfl, hP0⟩ | ⟨rfl, rfl⟩
                all_goals
                  go_wp2
                  refine Solo.up (Below.refl _ _) ?_
                  repeat (refine tq_take (by simp only [List.getElem?_toArray, List.getElem?_cons_succ, List.getElem?_cons_zero]; exact rfl) ?_; go_big_quiet_step (fail); refine wpQuiet_nil ?_)
                  refine tq_end ?_
                  go_wp2
                  go_roundw
                  case rel => exact ⟨j + 1, m, c, A, rows, os, xs, by omega, by omega, by go_num, rfl, HSm.out, HBm.out⟩
                  case measure => simp [intOf]; omega
              · exact absurd (placeL_some hin) h1
              · exact absurd (placeL_some hin) h1
          · as_aux_lemma =>
              have HS3 := Lib.hid (HS2.out.up hb3)
              have HB3 := Lib.hid (HB2.out.trans (hb3.mono HB2.out.size))
              have HY3 := Lib.hid (HY2.out.up hb3)
              have hok3 : AskOk w3 w3.heap.size ⟨p0, p1, p2, p3, p4, p5, p6, p7, p8, p9, p10, pn, pns, pd⟩ An nn cn Ad nd cd := by have := HOK2.out.up (hb3.mono HB2.out.size); exact { this with names := this.names.more HB3.out.size, data := this.data.more HB3.out.size }
              have HOK3 := Lib.hid hok3
              have Hb3 := Lib.hid hb3
              clear hok3 hb3
              have y0_ := HY3.out.cell 0 _ rfl
              have y1_ := HY3.out.cell 1 _ rfl
              have y2_ := HY3.out.cell 2 _ rfl
              have y3_ := HY3.out.cell 3 _ rfl
              have y4_ := HY3.out.cell 4 _ rfl
              have y5_ := HY3.out.cell 5 _ rfl
              have y6_ := HY3.out.cell 6 _ rfl
              have y7_ := HY3.out.cell 7 _ rfl
              have y8_ := HY3.out.cell 8 _ rfl
              have y9_ := HY3.out.cell 9 _ rfl
              have y10_ := HY3.out.cell 10 _ rfl
              have y11_ := HY3.out.cell 11 _ rfl
              have y12_ := HY3.out.cell 12 _ rfl
              have y13_ := HY3.out.cell 13 _ rfl
              have y14_ := HY3.out.cell 14 _ rfl
              have y15_ := HY3.out.cell 15 _ rfl
              go_wp2_with fail
              refine (refAsk_any d num p0 p1 p2 p3 p4 p5 p6 p7 p8 p9 p10 pn pns pd An nn cn Ad nd cd _ HOK3.out).mono ?_
              rintro e w4 ⟨x2, Gn, gn_, gc, Gd, gd, ge, hx2, rfl, hGN, hGD, hb4⟩
              obtain rfl := hx2.out.trans hx1.out.symm
              simp only [askC]
              have HS4 := Lib.hid (HS3.out.up hb4)
              have HB4 := Lib.hid (HB3.out.trans (hb4.mono HB3.out.size))
              have HY4 := Lib.hid (HY3.out.up hb4)
              have HGN := Lib.hid hGN
              have HGD := Lib.hid hGD
              have Hb4 := Lib.hid hb4
              have hgn8 : gn_ ≤ 8 := by have h9 : (sv qns).length = gn_ := hGN.len; rw [sv_length] at h9; omega
              have hgd30 : gd ≤ 30 := by have h9 : qd.length = gd := OwB.len hGD; omega
              clear hb4 hGN hGD y0_ y1_ y2_ y3_ y4_ y5_ y6_ y7_ y8_ y9_ y10_ y11_ y12_ y13_ y14_ y15_
              go_wp2_with fail
              refine (put_any g rows m k (xs.map AskV.tag) q1 (.int .i64 q0) (.int .i64 q2) (.int .i64 q3) (.int .i64 q4) (.int .i64 q5) (.int .i64 q6) (.int .i64 q7) (.int .i64 q8) (.int .i64 q9) (.string (st qn)) (.int .i64 q10) Gn gn_ gc (sv qns) Gd gd ge qd _ HS4.out.tg HS4.out.tr (by simp [Value.oneCell']) HGN.out.rd (sv_one _) (by omega) (OwB.rd HGD.out) (by omega)).mono ?_
              rintro e w5 (⟨h1, h2, h3⟩ | ⟨h1, h2, rfl, hb5⟩ | ⟨h1, h2, h3, _⟩)
              · exact absurd h1 (by rw [placeL_none hin]; omega)
              · have HS5 := Lib.hid (HS4.out.up hb5)
                have HB5 := Lib.hid (HB4.out.trans (hb5.mono HB4.out.size))
                have HY5 := Lib.hid (HY4.out.up hb5)
                clear hb5 h1 h2
                go_upto_region 27 with fail
                have HZS := Lib.hid (HS5.out)
                have HZY := Lib.hid (HY5.out)
                have HZB := Lib.hid (HB5.out)
                obtain ⟨P, D, hP, hD, hPD⟩ : ∃ (P : Int) (D : Bool), placeL ((xs).map AskV.tag) num = P ∧ decide (num ∈ (xs).map AskV.tag) = D ∧ ((D = true ∧ 0 ≤ P) ∨ (D = false ∧ P = -1)) := by
                  refine ⟨_, _, rfl, rfl, ?_⟩
                  by_cases hin : num ∈ (xs).map AskV.tag
                  · exact .inl ⟨by simpa using hin, placeL_some hin⟩
                  · exact .inr ⟨by simpa using hin, placeL_none hin⟩
                have HP := Lib.hid hP
                have HD := Lib.hid hD
                clear hP hD
                refine wp_region_tq NoG (.t 0 (.t 1 (.s 2 (.t 3 (.t 4 (.t 5 (.t 6 (.t 7 (.t 9 (.t 10 (.t 11 (.s 8 (.s 12 (.t 13 (.t 14 (.t 15 .nil)))))))))))))))) (by kernel_rfl) (by kernel_rfl) ?_
                repeat (refine tq_take (by simp only [List.getElem?_toArray, List.getElem?_cons_succ, List.getElem?_cons_zero]; exact rfl) ?_; go_big_quiet_step (fail); refine wpQuiet_nil ?_)
                refine tq_solo (by simp only [List.getElem?_toArray, List.getElem?_cons_succ, List.getElem?_cons_zero]; exact rfl) ?_
                go_wp2_with fail
                refine (like_any g rows m k _ A c os _ HZS.out.drew.tg HZS.out.drew.tr HZS.out.drew.own.rd HZS.out.drew.to).mono ?_
                rintro e wl ⟨rfl, hbl⟩
                have hYl := HZY.out.drew.up hbl
                have y1l := hYl.abv 1 _ rfl
                have HYl := Lib.hid hYl
                have HSl := Lib.hid (HZS.out.drew.up hbl)
                have Hbl := Lib.hid hbl
                have HBl := Lib.hid (HZB.out.drew.trans (hbl.mono (show w.heap.size ≤ (w5).drew.heap.size from HZB.out.size)))
                clear hYl hbl
                go_wp2
                refine Solo.up Hbl.out ?_
                repeat (refine tq_take (by simp only [List.getElem?_toArray, List.getElem?_cons_succ, List.getElem?_cons_zero]; exact rfl) ?_; go_big_quiet_step (fail); refine wpQuiet_nil ?_)
                clear y1l
                refine tq_solo (by simp only [List.getElem?_toArray, List.getElem?_cons_succ, List.getElem?_cons_zero]; exact rfl) ?_
                go_wp2_with fail
                refine (has_tag g rows m k _ num _ HSl.out.tg HSl.out.tr).mono ?_
                rintro e wm ⟨rfl, hbm⟩
                rw [HD.out]
                have HSm := Lib.hid (HSl.out.up hbm)
                have HBm := Lib.hid (HBl.out.trans (hbm.mono HBl.out.size))
                have Hbm := Lib.hid hbm
                clear hbm
                go_wp2
                refine Solo.up Hbm.out ?_
                refine tq_solo (by simp only [List.getElem?_toArray, List.getElem?_cons_succ, List.getElem?_cons_zero]; exact rfl) ?_
                go_wp2_with fail
                refine (refFind_any A m c os _ num _ HSm.out.own.rd HSm.out.to (by have := HSm.out.m8; omega)).mono ?_
                rintro e wf ⟨rfl, rfl⟩
                rw [HP.out]
                have hj24 := j24
                rcases hPD with ⟨rfl, hP0⟩ | ⟨rfl, rfl⟩
                all_goals
                  go_wp2
                  refine Solo.up (Below.refl _ _) ?_
                  repeat (refine tq_take (by simp only [List.getElem?_toArray, List.getElem?_cons_succ, List.getElem?_cons_zero]; exact rfl) ?_; go_big_quiet_step (fail); refine wpQuiet_nil ?_)
                  refine tq_end ?_
                  go_wp2
                  go_roundw
                  case rel => exact ⟨j + 1, m, c, A, rows, os, xs, by omega, by omega, by go_num, rfl, HSm.out, HBm.out⟩
                  case measure => simp [intOf]; omega
              · omega
          · as_aux_lemma =>
              have HO3 := Lib.hid (hO3.lower (show g + 1 ≤ w2.heap.size from hgr2))
              clear hO3
              have HS3 := Lib.hid (HS2.out.up hb3)
              have HB3 := Lib.hid (HB2.out.trans (hb3.mono HB2.out.size))
              have HY3 := Lib.hid (HY2.out.up hb3)
              have hok3 : AskOk w3 w3.heap.size ⟨p0, p1, p2, p3, p4, p5, p6, p7, p8, p9, p10, pn, pns, pd⟩ An nn cn Ad nd cd := by have := HOK2.out.up (hb3.mono HB2.out.size); exact { this with names := this.names.more HB3.out.size, data := this.data.more HB3.out.size }
              have HOK3 := Lib.hid hok3
              have Hb3 := Lib.hid hb3
              clear hok3 hb3
              have y0_ := HY3.out.cell 0 _ rfl
              have y1_ := HY3.out.cell 1 _ rfl
              have y2_ := HY3.out.cell 2 _ rfl
              have y3_ := HY3.out.cell 3 _ rfl
              have y4_ := HY3.out.cell 4 _ rfl
              have y5_ := HY3.out.cell 5 _ rfl
              have y6_ := HY3.out.cell 6 _ rfl
              have y7_ := HY3.out.cell 7 _ rfl
              have y8_ := HY3.out.cell 8 _ rfl
              have y9_ := HY3.out.cell 9 _ rfl
              have y10_ := HY3.out.cell 10 _ rfl
              have y11_ := HY3.out.cell 11 _ rfl
              have y12_ := HY3.out.cell 12 _ rfl
              have y13_ := HY3.out.cell 13 _ rfl
              have y14_ := HY3.out.cell 14 _ rfl
              have y15_ := HY3.out.cell 15 _ rfl
              go_wp2_with fail
              refine (refAsk_any d num p0 p1 p2 p3 p4 p5 p6 p7 p8 p9 p10 pn pns pd An nn cn Ad nd cd _ HOK3.out).mono ?_
              rintro e w4 ⟨x2, Gn, gn_, gc, Gd, gd, ge, hx2, rfl, hGN, hGD, hb4⟩
              obtain rfl := hx2.out.trans hx1.out.symm
              simp only [askC]
              have HS4 := Lib.hid (HS3.out.up hb4)
              have HB4 := Lib.hid (HB3.out.trans (hb4.mono HB3.out.size))
              have HY4 := Lib.hid (HY3.out.up hb4)
              have HGN := Lib.hid hGN
              have HGD := Lib.hid hGD
              have Hb4 := Lib.hid hb4
              have hgn8 : gn_ ≤ 8 := by have h9 : (sv qns).length = gn_ := hGN.len; rw [sv_length] at h9; omega
              have hgd30 : gd ≤ 30 := by have h9 : qd.length = gd := OwB.len hGD; omega
              clear hb4 hGN hGD y0_ y1_ y2_ y3_ y4_ y5_ y6_ y7_ y8_ y9_ y10_ y11_ y12_ y13_ y14_ y15_
              go_wp2_with fail
              refine (put_any g rows m k (xs.map AskV.tag) q1 (.int .i64 q0) (.int .i64 q2) (.int .i64 q3) (.int .i64 q4) (.int .i64 q5) (.int .i64 q6) (.int .i64 q7) (.int .i64 q8) (.int .i64 q9) (.string (st qn)) (.int .i64 q10) Gn gn_ gc (sv qns) Gd gd ge qd _ HS4.out.tg HS4.out.tr (by simp [Value.oneCell']) HGN.out.rd (sv_one _) (by omega) (OwB.rd HGD.out) (by omega)).mono ?_
              rintro e w5 (⟨h1, h2, h3⟩ | ⟨h1, h2, h3, h4_⟩ | ⟨h1, h2, rfl, Pn, pn_, pc, pnm, Pd, pd_, pe, pld, hpn, hpd, hPN, hPD, hT5, hK5⟩)
              · exact absurd h1 (by rw [placeL_none hin]; omega)
              · omega
              · have hng : ∀ b, g + 1 ≤ b → ¬ Is g b := fun b hb h => by have h' : b = g := h; omega
                have hXN5 : OwV w5 (g + 1) 9 Xn xn xc (sv qns) := Own.keeps ((HXN2.out.up Hb3.out).up Hb4.out) hK5 hng
                have hXD5 : OwB w5 (g + 1) Xd xd xe qd := Own.keeps (OwB.up (OwB.up HXD2.out Hb3.out) Hb4.out) hK5 hng
                have hPN5 : OwV w5 (g + 1) 9 Pn pn_ pc (sv qns) := by have e := hpn.out; rw [e] at hPN; exact hPN.lower (show g + 1 ≤ w4.heap.size from HS4.out.tg.lt)
                have hPD5 : OwB w5 (g + 1) Pd pd_ pe qd := by have e := hpd.out; rw [e] at hPD; exact hPD.lower (show g + 1 ≤ w4.heap.size from HS4.out.tg.lt)
                have hO5 := (HO3.out.up Hb4.out).keeps hK5 hng
                have HS5 := Lib.hid (HS4.out.put (x := ⟨q0, q1, q2, q3, q4, q5, q6, q7, q8, q9, q10, qn, qns, qd⟩) hK5 hT5 ⟨Pn, pn_, pc, Pd, pd_, pe, rfl, hPN5, hPD5⟩ hO5 hrs3.out ⟨Xn, xn, xc, Xd, xd, xe, rfl, hXN5, hXD5⟩ ⟨hxn', hxd'⟩)
                have HB5 := Lib.hid (HB4.out.trans (hK5.is hgle (Nat.le_of_lt HS4.out.tg.lt)))
                have HY5 := Lib.hid (HY4.out.keeps hK5 (show ¬ gO = g by omega))
                clear hXN5 hXD5 hPN5 hPD5 hO5 hT5 hK5 hPN hPD
                go_upto_region 27 with fail
                have HZS := Lib.hid (HS5.out)
                have HZY := Lib.hid (HY5.out)
                have HZB := Lib.hid (HB5.out)
                obtain ⟨P, D, hP, hD, hPD⟩ : ∃ (P : Int) (D : Bool), placeL (((xs ++ [(⟨q0, q1, q2, q3, q4, q5, q6, q7, q8, q9, q10, qn, qns, qd⟩ : AskV)])).map AskV.tag) num = P ∧ decide (num ∈ ((xs ++ [(⟨q0, q1, q2, q3, q4, q5, q6, q7, q8, q9, q10, qn, qns, qd⟩ : AskV)])).map AskV.tag) = D ∧ ((D = true ∧ 0 ≤ P) ∨ (D = false ∧ P = -1)) := by
                  refine ⟨_, _, rfl, rfl, ?_⟩
                  by_cases hin : num ∈ ((xs ++ [(⟨q0, q1, q2, q3, q4, q5, q6, q7, q8, q9, q10, qn, qns, qd⟩ : AskV)])).map AskV.tag
                  · exact .inl ⟨by simpa using hin, placeL_some hin⟩
                  · exact .inr ⟨by simpa using hin, placeL_none hin⟩
                have HP := Lib.hid hP
                have HD := Lib.hid hD
                clear hP hD
                refine wp_region_tq NoG (.t 0 (.t 1 (.s 2 (.t 3 (.t 4 (.t 5 (.t 6 (.t 7 (.t 9 (.t 10 (.t 11 (.s 8 (.s 12 (.t 13 (.t 14 (.t 15 .nil)))))))))))))))) (by kernel_rfl) (by kernel_rfl) ?_
                repeat (refine tq_take (by simp only [List.getElem?_toArray, List.getElem?_cons_succ, List.getElem?_cons_zero]; exact rfl) ?_; go_big_quiet_step (fail); refine wpQuiet_nil ?_)
                refine tq_solo (by simp only [List.getElem?_toArray, List.getElem?_cons_succ, List.getElem?_cons_zero]; exact rfl) ?_
                go_wp2_with fail
                refine (like_any g (rows.set m _) (m + 1) k _ A3 c3 rs3 _ HZS.out.drew.tg HZS.out.drew.tr HZS.out.drew.own.rd HZS.out.drew.to).mono ?_
                rintro e wl ⟨rfl, hbl⟩
                have hYl := HZY.out.drew.up hbl
                have y1l := hYl.abv 1 _ rfl
                have HYl := Lib.hid hYl
                have HSl := Lib.hid (HZS.out.drew.up hbl)
                have Hbl := Lib.hid hbl
                have HBl := Lib.hid (HZB.out.drew.trans (hbl.mono (show w.heap.size ≤ (w5).drew.heap.size from HZB.out.size)))
                clear hYl hbl
                go_wp2
                refine Solo.up Hbl.out ?_
                repeat (refine tq_take (by simp only [List.getElem?_toArray, List.getElem?_cons_succ, List.getElem?_cons_zero]; exact rfl) ?_; go_big_quiet_step (fail); refine wpQuiet_nil ?_)
                clear y1l
                refine tq_solo (by simp only [List.getElem?_toArray, List.getElem?_cons_succ, List.getElem?_cons_zero]; exact rfl) ?_
                go_wp2_with fail
                refine (has_tag g (rows.set m _) (m + 1) k _ num _ HSl.out.tg HSl.out.tr).mono ?_
                rintro e wm ⟨rfl, hbm⟩
                rw [HD.out]
                have HSm := Lib.hid (HSl.out.up hbm)
                have HBm := Lib.hid (HBl.out.trans (hbm.mono HBl.out.size))
                have Hbm := Lib.hid hbm
                clear hbm
                go_wp2
                refine Solo.up Hbm.out ?_
                refine tq_solo (by simp only [List.getElem?_toArray, List.getElem?_cons_succ, List.getElem?_cons_zero]; exact rfl) ?_
                go_wp2_with fail
                refine (refFind_any A3 (m + 1) c3 rs3 _ num _ HSm.out.own.rd HSm.out.to (by have := HSm.out.m8; omega)).mono ?_
                rintro e wf ⟨rfl, rfl⟩
                rw [HP.out]
                have hj24 := j24
                rcases hPD with ⟨rfl, hP0⟩ | ⟨rfl, rfl⟩
                all_goals
                  go_wp2
                  refine Solo.up (Below.refl _ _) ?_
                  repeat (refine tq_take (by simp only [List.getElem?_toArray, List.getElem?_cons_succ, List.getElem?_cons_zero]; exact rfl) ?_; go_big_quiet_step (fail); refine wpQuiet_nil ?_)
                  refine tq_end ?_
                  go_wp2
                  go_roundw
                  case rel => exact ⟨j + 1, (m + 1), c3, A3, (rows.set m _), rs3, (xs ++ [(⟨q0, q1, q2, q3, q4, q5, q6, q7, q8, q9, q10, qn, qns, qd⟩ : AskV)]), by omega, by omega, by go_num, rfl, HSm.out, HBm.out⟩
                  case measure => simp [intOf]; omega
    · have hstop : (decide ((j : Int) < n0) = false ∧ decide (j < n0) = false) ∨ (j < n0 ∧ decide ((j : Int) < 24) = false ∧ decide (j < 24) = false) := by
        rcases Nat.lt_or_ge j n0 with h | h
        · right; exact ⟨h, by simp; omega, by simp; omega⟩
        · left; exact ⟨by simp; omega, by simp; omega⟩
      clear hlt
      rcases hstop with ⟨s1, s2⟩ | ⟨s1, s2, s3⟩
      all_goals
        go_wp2_with fail
        refine (tlives_any _).mono ?_
        rintro e w9 ⟨rfl, hb9⟩
        go_wp2
        go_ret
        exact ⟨rfl, HB.out.trans (hb9.mono HB.out.size)⟩
end Go.Proofs.Ytgogdgpdkkbfhaa
