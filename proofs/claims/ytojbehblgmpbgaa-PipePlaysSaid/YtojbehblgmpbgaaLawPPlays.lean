/-
  Layer 5: the law PipePlays.
-/
import Derived.Test.YtojbehblgmpbgaaPipeS
namespace Go.Proofs.Ytojbehblgmpbgaa
open Go.RowKit Go.Conc
set_option linter.unusedVariables false
set_option linter.unusedSimpArgs false

/-- The blocks that neither the pipe nor the reference's variable is. -/
def Apart (g ct cr gW : Nat) : Nat → Prop := fun k => k ≠ gW ∧ ¬ Tri g ct cr k
/-- The loop's relation. -/
def PyRel (w1 : World) (g ct cr gW : Nat) (gs : List Int) (As : Option Addr) (ms cs n : Nat) (i : Value) (wr : World) : Prop :=
  ∃ (j : Nat) (D : Nat → Prop) (L : List (List UInt8)) (AL : Option Addr) (nL cL atR : Nat), j ≤ n ∧ j ≤ 24 ∧ i = .int .i64 j ∧ PL wr g ct cr D gs (atR % ms) L ∧ GoodL L ∧ L.length ≤ j ∧ Blk wr gW 41 [.slice AL nL cL, .slice As ms cs, .int .i64 atR] ∧ RdF wr (Apart g ct cr gW) AL nL (sv L) ∧ atR ≤ j ∧ (∀ k, D k → k ≠ gW) ∧ Below w1.heap.size w1 wr

theorem nextAt_mod {gs : List Int} {ms a : Nat} (h : gs.length = ms) : nextAt gs (a % ms) = (a + 1) % ms := by unfold nextAt; rw [h, Nat.mod_add_mod]

set_option maxRecDepth 100000 in
set_option maxHeartbeats 8000000 in
theorem pipePlays_walk (A0 : Option Addr) (n0 c0 : Nat) (zs : List Int) (A1 : Option Addr) (n1 c1 : Nat) (l1 : List (List UInt8)) (w : World) (h0 : RdV w w.heap.size A0 n0 (iv zs)) (hz : ∀ z ∈ zs, -9223372036854775808 ≤ z ∧ z ≤ 9223372036854775807) (hn0 : n0 ≤ 9223372036854775807)
    (h1 : RdBB w w.heap.size A1 n1 l1) (hn1 : n1 ≤ 9223372036854775807) :
    Calls Try.prog 5 #[.slice A0 n0 c0, .slice A1 n1 c1] w fun e w' => e = .returned (.bool true) ∧ Below w.heap.size w w' := by
  have H1 := Lib.hid h1
  have HZ := Lib.hid hz
  have H0 := Lib.hid h0
  clear h1 hz h0
  go_enter Try.func5, Try.ntmps5
  go_wp2_with fail
  refine (good_any A0 n0 c0 zs _ H0.out HZ.out hn0).mono ?_
  rintro e w1 ⟨As, ms, cs, gs, hgs, rfl, howns, hb1⟩
  have hgl : gs.length = ms := by rw [← iv_length]; exact howns.len
  have HGS := Lib.hid hgs
  have HOS := Lib.hid howns
  have HB1 := Lib.hid hb1
  have HGLn := Lib.hid hgl
  have hms6 : ms ≤ 6 := by rw [← hgl]; exact hgs.2.1
  have hms1 : 1 ≤ ms := by rw [← hgl]; exact hgs.2.2.1
  have hw01 := hb1.size
  clear hgs howns hb1 hgl
  go_wp2_with fail
  refine (newp_any As ms cs gs _ HOS.out.rd (by omega)).mono ?_
  rintro e w2 (⟨_, g, ct, cr, D, rfl, hpl, ht, hd, hb2⟩ | ⟨h, _⟩)
  · rw [HGS.out.scr] at hpl
    have hlt := hpl.lt
    have HPL := Lib.hid hpl
    have HB2 := Lib.hid hb2
    have HT := Lib.hid ht
    have HLT := Lib.hid hlt
    have hw12 := hb2.size
    clear hpl ht hd hb2 hlt
    go_wp2_with fail
    refine (rNew_any As ms cs _ hms1).mono ?_
    rintro e w3 ⟨rfl, hb3⟩
    have hw23 := hb3.size
    have hBW := Blk.new w3 41 [.slice none 0 0, .slice As ms cs, .int .i64 0]
    have hb4 : Below w3.heap.size w3 (w3.alloc (.cells #[.slice none 0 0, .slice As ms cs, .int .i64 0] 41)) := (Below.refl _ _).alloc (Nat.le_refl _) _
    have HPL4 := Lib.hid ((HPL.out.up hb3).up hb4)
    have HB4 := Lib.hid (HB2.out.trans ((Up.trans hb3 hb4).mono hw12))
    have HBW := Lib.hid hBW
    clear hBW hb3 hb4
    go_wp2
    generalize w3.alloc (.cells #[.slice none 0 0, .slice As ms cs, .int .i64 0] 41) = wz at HPL4 HB4 HBW
    obtain ⟨gW, hgW⟩ : ∃ x, x = w3.heap.size := ⟨_, rfl⟩
    rw [← hgW] at HBW ⊢
    have hgW2 : w2.heap.size ≤ gW := by omega
    clear hgW
    have hgT : ¬ Tri g ct cr gW := fun h => by have := HLT.out.1 gW h; omega
    have HGT := Lib.hid hgT
    clear hgT
    go_loopw [9] (fun i wr => PyRel w1 g ct cr gW gs As ms cs n1 i wr) (fun i _ => 24 - (intOf i).toNat)
    case atStart => exact ⟨0, D, [], none, 0, 0, 0, by omega, by omega, rfl, by rw [Nat.zero_mod]; exact HPL4.out, GoodL.nil, by simp, HBW.out, RdF.nil, by omega, (fun k hk => by have := HLT.out.2 k hk; omega), HB4.out⟩
    case round =>
      obtain ⟨j, D, L, AL, nL, cL, atR, hj, hj24, rfl, hpl, hL, hll, hbw, hrl, hat, hdw, hbel⟩ := hrel
      have hrow : Below w.heap.size w wr := HB1.out.trans (hbel.mono hw01)
      have hsz := hbel.size
      have hnL : L.length = nL := by have := hrl.1.1; rw [sv_length] at this; omega
      have hltr := hpl.lt
      have HPr := Lib.hid hpl
      have HL := Lib.hid hL
      have HBr := Lib.hid hbw
      have HRr := Lib.hid hrl
      have HDr := Lib.hid hdw
      have HBel := Lib.hid hbel
      have HROW := Lib.hid hrow
      have HNL := Lib.hid hnL
      have HLTr := Lib.hid hltr
      have hgWl := hbw.lt
      clear hpl hL hbw hrl hdw hbel hrow hnL hltr HPL HPL4 HBW HB4
      by_cases hlt2 : j < n1 ∧ j < 24
      · obtain ⟨hl1, hl2⟩ := hlt2
        have j0 : (0 : Int) ≤ j := by omega
        have j1 : (j : Int) < n1 := by omega
        have j2 : (j : Int) < 24 := by omega
        obtain ⟨b, off, li, Ai, ni, ci, hAe, hbb, hli, hc, hri, hci, hcm⟩ := H1.out.at_ hl1
        subst hAe
        have kr := cell_later HROW.out hc
        have HRI := Lib.hid (hri.up HROW.out)
        clear hc hri hli
        go_wp2_with fail
        refine (few_any Ai ni ci li 20 _ HRI.out hci hcm (by omega)).mono ?_
        rintro e w3 ⟨Ab, nb, cb, lb, hlb, rfl, hownb, hb3⟩
        have hlb20 : lb.length ≤ 20 := by rw [hlb.out, List.length_take]; omega
        have hnb : lb.length = nb := hownb.len
        have hw3 := hb3.size
        have HOB := Lib.hid hownb
        have HB3 := Lib.hid hb3
        have HP3 := Lib.hid (HPr.out.up hb3)
        have HBr3 := Lib.hid (HBr.out.up hb3)
        have HRr3 := Lib.hid (HRr.out.keeps (Keeps.of_below (G := NoG) hb3) (fun _ _ h => h))
        have HNB := Lib.hid hnb
        clear hownb hb3 kr hnb
        have k0 := HBr3.out.cell 0 _ rfl
        have k1 := HBr3.out.cell 1 _ rfl
        have k2 := HBr3.out.cell 2 _ rfl
        -- which is done
        have hwhich : (nb = 0 ∨ ∃ bb oo y, Ab = some ⟨bb, oo, none⟩ ∧ 0 < nb ∧ w3.cell? ⟨bb, oo, none⟩ = some (.int .u8 (y : Nat)) ∧ y % 3 = 0) ∨ (∃ bb oo y, Ab = some ⟨bb, oo, none⟩ ∧ 0 < nb ∧ w3.cell? ⟨bb, oo, none⟩ = some (.int .u8 (y : Nat)) ∧ y % 3 ≠ 0) := by
          rcases Nat.eq_zero_or_pos nb with h | h
          · exact .inl (.inl h)
          · obtain ⟨bb, oo, x, hA, _, _, hcx⟩ := HOB.out.rd.at_ h
            rw [Nat.add_zero] at hcx
            by_cases hx : x.toNat % 3 = 0
            · exact .inl (.inr ⟨bb, oo, x.toNat, hA, h, hcx, hx⟩)
            · exact .inr ⟨bb, oo, x.toNat, hA, h, hcx, hx⟩
        have hlbl := HNB.out
        have HGSr : Hid (RdV w3 w3.heap.size As ms (iv gs)) := Lib.hid (((HOS.out.rd.below HBel.out).more hsz).up HB3.out)
        rcases hwhich with (rfl | ⟨bb, oo, y, hA, hnb0, hcx, hy⟩) | ⟨bb, oo, y, hA, hnb0, hcx, hy⟩
        · go_upto_region 11 with fail
          go_wp2_with fail
          refine (rNext_any AL nL cL As ms cs atR gs L _ HRr3.out.1 HL.out HGSr.out HGS.out (by omega)).mono ?_
          rintro e w4 hnx
          have hnx' : ∃ A' n' c' L' out, ∃ is : Bool, ∃ atN : Nat, e = .returned (.tuple #[.agg #[.slice A' n' c', .slice As ms cs, .int .i64 atN], .string (st out), .bool is]) ∧ RdF w4 (Apart g ct cr gW) A' n' (sv L') ∧ Below w3.heap.size w3 w4 ∧ atN ≤ atR + 1 ∧ GoodL L' ∧ L'.length ≤ L.length ∧
              Hid ((L = [] ∧ L' = [] ∧ out = [] ∧ is = false ∧ atN = atR) ∨ (L ≠ [] ∧ L' = nextL gs (atR % ms) L ∧ out = pieceOf gs (atR % ms) L ∧ is = true ∧ atN = atR + 1)) := by
            rcases hnx with ⟨hLe, rfl, hb4⟩ | ⟨hLn, A', n', c', L', out, rfl, hr4, ho4, hl4, hb4, hfr⟩
            · exact ⟨AL, nL, cL, L, [], false, atR, rfl, HRr3.out.keeps (Keeps.of_below (G := NoG) hb4) (fun _ _ h => h), hb4, by omega, HL.out, Nat.le_refl _, Lib.hid (.inl ⟨hLe, hLe, rfl, rfl, rfl⟩)⟩
            · refine ⟨A', n', c', L', out, true, atR + 1, rfl, ⟨hr4, fun h0 => ?_⟩, hb4, Nat.le_refl _, by rw [hl4.out]; exact nextL_good HL.out, by rw [hl4.out]; exact (eat_good _ _ HL.out).2, Lib.hid (.inr ⟨hLn, hl4.out, ho4.out, rfl, rfl⟩)⟩
              obtain ⟨ad, ha, _⟩ := hr4.2 h0
              have h3 := hfr ad ha h0
              exact ⟨ad, ha, by omega, fun ht => by have := HLTr.out.1 _ ht; omega⟩
          clear hnx
          obtain ⟨A4, n4, c4, L4, out4, is4, at4, rfl, hr4, hb4, hat4, hg4, hll4, hfacts⟩ := hnx'
          have hw4 := hb4.size
          have hB5 := (HBr3.out.up hb4).alloc (.cells #[.slice A4 n4 c4, .slice As ms cs, .int .i64 at4] 41)
          have HR4 := Lib.hid hr4
          have HB4 := Lib.hid hb4
          have HG4 := Lib.hid hg4
          have hb5 : Below w4.heap.size w4 (w4.alloc (.cells #[.slice A4 n4 c4, .slice As ms cs, .int .i64 at4] 41)) := (Below.refl _ _).alloc (Nat.le_refl _) _
          have HB5 := Lib.hid hb5
          clear hr4 hb4 hg4 k0 k1 k2 hb5
          go_upto_region 13 with (refine wpList_storeBlk rfl (.tmp 8) (.tmp 64) rfl rfl [.slice A4 n4 c4, .slice As ms cs, .int .i64 at4] rfl rfl (by kernel_rfl) hB5 rfl (by simp [Value.oneCell']) ?_)
          have hB6 := hB5.setRow [.slice A4 n4 c4, .slice As ms cs, .int .i64 at4]
          have hk6 : Keeps (Is gW) w3 ((w4.alloc (.cells #[.slice A4 n4 c4, .slice As ms cs, .int .i64 at4] 41)).setRow gW #[.slice A4 n4 c4, .slice As ms cs, .int .i64 at4]) := (Keeps.of_below (Up.trans HB4.out HB5.out)).trans (keeps_setRow _ _)
          have hk46 : Keeps (Is gW) w4 ((w4.alloc (.cells #[.slice A4 n4 c4, .slice As ms cs, .int .i64 at4] 41)).setRow gW #[.slice A4 n4 c4, .slice As ms cs, .int .i64 at4]) := (Keeps.of_below HB5.out).trans (keeps_setRow _ _)
          generalize (w4.alloc (.cells #[.slice A4 n4 c4, .slice As ms cs, .int .i64 at4] 41)).setRow gW #[.slice A4 n4 c4, .slice As ms cs, .int .i64 at4] = w6 at hB6 hk6 hk46
          have HP6 := Lib.hid (HP3.out.keeps hk6 (fun k ht e => by have e' : k = gW := e; rw [e'] at ht; exact HGT.out ht) (fun k hd e => HDr.out k hd e))
          have HR6 := Lib.hid (HR4.out.keeps hk46 (fun k hk e => hk.1 e))
          have HB6 := Lib.hid hB6
          have HK6 := Lib.hid hk6
          have hw6 := hk6.size
          clear hB5 hB6 hk6 hk46
          go_wp2_with fail
          refine (next_both g ct cr D gs (atR % ms) L _ HP6.out HL.out HGS.out.sizes (by rw [HGLn.out]; exact Nat.mod_lt _ (by omega))).mono ?_
          rintro e wE hnp
          have hnp' : ∃ Ax nx cx atE, e = .returned (.tuple #[.slice Ax nx cx, .bool is4]) ∧ RdB wE wE.heap.size Ax nx out4 ∧ PL wE g ct cr D gs atE L4 ∧ atE = at4 % ms ∧ Keeps (Tri g ct cr) w6 wE := by
            rcases hnp with ⟨hLe, rfl, rfl⟩ | ⟨htp, A', n', c', out, ho, rfl, hown, hpl, hk⟩
            · rcases hfacts.out with ⟨_, h2, h3, h4, h5⟩ | ⟨h, _⟩
              · subst h2 h3 h4 h5
                exact ⟨none, 0, 0, _, rfl, RdB.nil, by rw [← hLe]; exact HP6.out, rfl, Keeps.refl _ _⟩
              · exact absurd hLe h
            · rcases hfacts.out with ⟨h, _⟩ | ⟨_, h2, h3, h4, h5⟩
              · rw [h] at htp; simp [total] at htp
              · subst h4
                rw [h3, ← ho.out, h2, h5]
                exact ⟨A', n', c', _, rfl, hown.rd, hpl, nextAt_mod HGLn.out, hk⟩
          clear hnp
          obtain ⟨Ax, nx, cx, atE, rfl, hrx, hpE, hatE, hkE⟩ := hnp'
          have ks := str_of (c := cx) hrx (Below.refl _ _)
          have HPE := Lib.hid hpE
          have HBE := Lib.hid (HB6.out.keeps hkE HGT.out)
          have HRE := Lib.hid (HR6.out.keeps hkE (fun k hk ht => hk.2 ht))
          have HGE := HG4
          have HLE : Hid (L4.length = n4) := Lib.hid (by have := HRE.out.1.1; rw [sv_length] at this; omega)
          have HATE := Lib.hid hatE
          have HLLE : Hid (L4.length ≤ j + 1) := Lib.hid (by omega)
          have HATL : Hid (at4 ≤ j + 1) := Lib.hid (by omega)
          have HDE := HDr
          have HBelE : Hid (Below w1.heap.size w1 wE) := Lib.hid (by
            have k1 : Keeps (fun k => k = gW ∨ Tri g ct cr k) w1 w3 := Keeps.of_below (HBel.out.trans (HB3.out.mono hsz))
            have k2 := (k1.trans (HK6.out.mono fun k _ e => .inl e)).trans (hkE.mono fun k _ e => .inr e)
            exact k2.under (Nat.le_refl _) (fun k hk e => e.elim (fun e => by omega) (fun e => by have := HT.out k e; omega)))
          clear hrx hpE hkE hatE hll4 hat4
          obtain ⟨DE, hDE⟩ : ∃ x, x = D := ⟨_, rfl⟩
          obtain ⟨LE, hLE⟩ : ∃ x, x = L4 := ⟨_, rfl⟩
          obtain ⟨AE, hAE⟩ : ∃ x, x = A4 := ⟨_, rfl⟩
          obtain ⟨nE, hnE⟩ : ∃ x, x = n4 := ⟨_, rfl⟩
          obtain ⟨cE, hcE⟩ : ∃ x, x = c4 := ⟨_, rfl⟩
          obtain ⟨atRE, haE⟩ : ∃ x, x = at4 := ⟨_, rfl⟩
          rw [← hDE, ← hLE] at HPE
          rw [← hAE, ← hnE, ← hcE, ← haE] at HBE
          rw [← hAE, ← hnE, ← hLE] at HRE
          rw [← hLE] at HGE
          rw [← hLE, ← hnE] at HLE
          rw [← haE] at HATE HATL
          rw [← hLE] at HLLE
          rw [← hDE] at HDE
          clear hDE hLE hAE hnE hcE haE
          go_upto_region 20 with fail
          have hBE := HBE.out
          have c0 := cell_abv (G := NoG) (w := wE.drew) (hBE.cell 0 _ rfl) (fun h => h)
          have c1 := cell_abv (G := NoG) (w := wE.drew) (hBE.cell 1 _ rfl) (fun h => h)
          have c2 := cell_abv (G := NoG) (w := wE.drew) (hBE.cell 2 _ rfl) (fun h => h)
          clear hBE
          refine wp_region_plan NoG [(0, false), (2, false), (1, true), (3, true), (4, false), (5, false), (6, false), (8, false), (9, false), (10, false), (7, true), (11, false), (12, false)] (by kernel_rfl) (by kernel_rfl) ?_
          repeat (refine plan_take (by simp only [List.getElem?_toArray, List.getElem?_cons_succ, List.getElem?_cons_zero]; exact rfl) ?_; go_big_quiet_step (fail); refine wpQuiet_nil ?_)
          refine plan_solo (by simp only [List.getElem?_toArray, List.getElem?_cons_succ, List.getElem?_cons_zero]; exact rfl) ?_
          go_wp2_with fail
          refine (left_any _ g ct cr DE gs atE LE (HPE.out.keeps (Keeps.drew (Keeps.refl NoG _)) (fun _ _ h => h) (fun _ _ h => h))).mono ?_
          rintro e w7 ⟨rfl, rfl⟩
          go_wp2
          refine Solo.up (Below.refl _ _) ?_
          refine plan_solo (by simp only [List.getElem?_toArray, List.getElem?_cons_succ, List.getElem?_cons_zero]; exact rfl) ?_
          go_wp2_with fail
          refine (rLeft_any AE nE cE As ms cs _ LE _ HRE.out.1.drew HGE.out).mono ?_
          rintro e w8 ⟨rfl, hb8⟩
          clear c0 c1 c2
          have c0 := cell_abv (G := NoG) (w := w8) (((HBE.out.drew).up hb8).cell 0 _ rfl) (fun h => h)
          have HB8 := Lib.hid hb8
          go_wp2
          refine Solo.up HB8.out ?_
          repeat (refine plan_take (by simp only [List.getElem?_toArray, List.getElem?_cons_succ, List.getElem?_cons_zero]; exact rfl) ?_; go_big_quiet_step (fail); refine wpQuiet_nil ?_)
          refine plan_solo (by simp only [List.getElem?_toArray, List.getElem?_cons_succ, List.getElem?_cons_zero]; exact rfl) ?_
          go_wp2_with fail
          refine (texts_any _ g ct cr DE gs atE LE ((HPE.out.keeps (Keeps.drew (Keeps.refl NoG _)) (fun _ _ h => h) (fun _ _ h => h)).up HB8.out)).mono ?_
          rintro e w9 ⟨rfl, rfl⟩
          rw [HLE.out]
          go_wp2
          refine Solo.up (Below.refl _ _) ?_
          repeat (refine plan_take (by simp only [List.getElem?_toArray, List.getElem?_cons_succ, List.getElem?_cons_zero]; exact rfl) ?_; go_big_quiet_step (fail); refine wpQuiet_nil ?_)
          refine plan_end ?_
          clear c0
          have hk8 : Keeps NoG wE w8 := Keeps.of_below (below_of_drew HB8.out)
          have HKE := Lib.hid hk8
          clear hk8
          go_wp2
          go_roundw
          case rel => exact ⟨j + 1, DE, LE, AE, nE, cE, atRE, by omega, by omega, by go_num, by rw [← HATE.out]; exact HPE.out.keeps HKE.out (fun _ _ h => h) (fun _ _ h => h), HGE.out, by have := HLLE.out; omega, HBE.out.keeps HKE.out (fun h => h), HRE.out.keeps HKE.out (fun _ _ h => h), by have := HATL.out; omega, HDE.out, HBelE.out.trans (HKE.out.below.mono (by have := HBelE.out.size; omega))⟩
          case measure => simp [intOf]; omega
        · subst hA
          have q1 : (0 : Int) < nb := by omega
          have q2 : ((nb : Int) == 0) = false := by simp; omega
          have q3 : Int.tmod (y : Int) 3 = 0 := by rw [Int.tmod_eq_emod_of_nonneg (by omega)]; omega
          have q4 : ((y : Int) % 3 == 0) = true := by simp; omega
          have q5 : (y : Int) % 3 = 0 := by omega
          go_upto_region 11 with fail
          clear q3 q4 q5
          go_wp2_with fail
          refine (rNext_any AL nL cL As ms cs atR gs L _ HRr3.out.1 HL.out HGSr.out HGS.out (by omega)).mono ?_
          rintro e w4 hnx
          have hnx' : ∃ A' n' c' L' out, ∃ is : Bool, ∃ atN : Nat, e = .returned (.tuple #[.agg #[.slice A' n' c', .slice As ms cs, .int .i64 atN], .string (st out), .bool is]) ∧ RdF w4 (Apart g ct cr gW) A' n' (sv L') ∧ Below w3.heap.size w3 w4 ∧ atN ≤ atR + 1 ∧ GoodL L' ∧ L'.length ≤ L.length ∧
              Hid ((L = [] ∧ L' = [] ∧ out = [] ∧ is = false ∧ atN = atR) ∨ (L ≠ [] ∧ L' = nextL gs (atR % ms) L ∧ out = pieceOf gs (atR % ms) L ∧ is = true ∧ atN = atR + 1)) := by
            rcases hnx with ⟨hLe, rfl, hb4⟩ | ⟨hLn, A', n', c', L', out, rfl, hr4, ho4, hl4, hb4, hfr⟩
            · exact ⟨AL, nL, cL, L, [], false, atR, rfl, HRr3.out.keeps (Keeps.of_below (G := NoG) hb4) (fun _ _ h => h), hb4, by omega, HL.out, Nat.le_refl _, Lib.hid (.inl ⟨hLe, hLe, rfl, rfl, rfl⟩)⟩
            · refine ⟨A', n', c', L', out, true, atR + 1, rfl, ⟨hr4, fun h0 => ?_⟩, hb4, Nat.le_refl _, by rw [hl4.out]; exact nextL_good HL.out, by rw [hl4.out]; exact (eat_good _ _ HL.out).2, Lib.hid (.inr ⟨hLn, hl4.out, ho4.out, rfl, rfl⟩)⟩
              obtain ⟨ad, ha, _⟩ := hr4.2 h0
              have h3 := hfr ad ha h0
              exact ⟨ad, ha, by omega, fun ht => by have := HLTr.out.1 _ ht; omega⟩
          clear hnx
          obtain ⟨A4, n4, c4, L4, out4, is4, at4, rfl, hr4, hb4, hat4, hg4, hll4, hfacts⟩ := hnx'
          have hw4 := hb4.size
          have hB5 := (HBr3.out.up hb4).alloc (.cells #[.slice A4 n4 c4, .slice As ms cs, .int .i64 at4] 41)
          have HR4 := Lib.hid hr4
          have HB4 := Lib.hid hb4
          have HG4 := Lib.hid hg4
          have hb5 : Below w4.heap.size w4 (w4.alloc (.cells #[.slice A4 n4 c4, .slice As ms cs, .int .i64 at4] 41)) := (Below.refl _ _).alloc (Nat.le_refl _) _
          have HB5 := Lib.hid hb5
          clear hr4 hb4 hg4 k0 k1 k2 hb5
          go_upto_region 13 with (refine wpList_storeBlk rfl (.tmp 8) (.tmp 64) rfl rfl [.slice A4 n4 c4, .slice As ms cs, .int .i64 at4] rfl rfl (by kernel_rfl) hB5 rfl (by simp [Value.oneCell']) ?_)
          have hB6 := hB5.setRow [.slice A4 n4 c4, .slice As ms cs, .int .i64 at4]
          have hk6 : Keeps (Is gW) w3 ((w4.alloc (.cells #[.slice A4 n4 c4, .slice As ms cs, .int .i64 at4] 41)).setRow gW #[.slice A4 n4 c4, .slice As ms cs, .int .i64 at4]) := (Keeps.of_below (Up.trans HB4.out HB5.out)).trans (keeps_setRow _ _)
          have hk46 : Keeps (Is gW) w4 ((w4.alloc (.cells #[.slice A4 n4 c4, .slice As ms cs, .int .i64 at4] 41)).setRow gW #[.slice A4 n4 c4, .slice As ms cs, .int .i64 at4]) := (Keeps.of_below HB5.out).trans (keeps_setRow _ _)
          generalize (w4.alloc (.cells #[.slice A4 n4 c4, .slice As ms cs, .int .i64 at4] 41)).setRow gW #[.slice A4 n4 c4, .slice As ms cs, .int .i64 at4] = w6 at hB6 hk6 hk46
          have HP6 := Lib.hid (HP3.out.keeps hk6 (fun k ht e => by have e' : k = gW := e; rw [e'] at ht; exact HGT.out ht) (fun k hd e => HDr.out k hd e))
          have HR6 := Lib.hid (HR4.out.keeps hk46 (fun k hk e => hk.1 e))
          have HB6 := Lib.hid hB6
          have HK6 := Lib.hid hk6
          have hw6 := hk6.size
          clear hB5 hB6 hk6 hk46
          go_wp2_with fail
          refine (next_both g ct cr D gs (atR % ms) L _ HP6.out HL.out HGS.out.sizes (by rw [HGLn.out]; exact Nat.mod_lt _ (by omega))).mono ?_
          rintro e wE hnp
          have hnp' : ∃ Ax nx cx atE, e = .returned (.tuple #[.slice Ax nx cx, .bool is4]) ∧ RdB wE wE.heap.size Ax nx out4 ∧ PL wE g ct cr D gs atE L4 ∧ atE = at4 % ms ∧ Keeps (Tri g ct cr) w6 wE := by
            rcases hnp with ⟨hLe, rfl, rfl⟩ | ⟨htp, A', n', c', out, ho, rfl, hown, hpl, hk⟩
            · rcases hfacts.out with ⟨_, h2, h3, h4, h5⟩ | ⟨h, _⟩
              · subst h2 h3 h4 h5
                exact ⟨none, 0, 0, _, rfl, RdB.nil, by rw [← hLe]; exact HP6.out, rfl, Keeps.refl _ _⟩
              · exact absurd hLe h
            · rcases hfacts.out with ⟨h, _⟩ | ⟨_, h2, h3, h4, h5⟩
              · rw [h] at htp; simp [total] at htp
              · subst h4
                rw [h3, ← ho.out, h2, h5]
                exact ⟨A', n', c', _, rfl, hown.rd, hpl, nextAt_mod HGLn.out, hk⟩
          clear hnp
          obtain ⟨Ax, nx, cx, atE, rfl, hrx, hpE, hatE, hkE⟩ := hnp'
          have ks := str_of (c := cx) hrx (Below.refl _ _)
          have HPE := Lib.hid hpE
          have HBE := Lib.hid (HB6.out.keeps hkE HGT.out)
          have HRE := Lib.hid (HR6.out.keeps hkE (fun k hk ht => hk.2 ht))
          have HGE := HG4
          have HLE : Hid (L4.length = n4) := Lib.hid (by have := HRE.out.1.1; rw [sv_length] at this; omega)
          have HATE := Lib.hid hatE
          have HLLE : Hid (L4.length ≤ j + 1) := Lib.hid (by omega)
          have HATL : Hid (at4 ≤ j + 1) := Lib.hid (by omega)
          have HDE := HDr
          have HBelE : Hid (Below w1.heap.size w1 wE) := Lib.hid (by
            have k1 : Keeps (fun k => k = gW ∨ Tri g ct cr k) w1 w3 := Keeps.of_below (HBel.out.trans (HB3.out.mono hsz))
            have k2 := (k1.trans (HK6.out.mono fun k _ e => .inl e)).trans (hkE.mono fun k _ e => .inr e)
            exact k2.under (Nat.le_refl _) (fun k hk e => e.elim (fun e => by omega) (fun e => by have := HT.out k e; omega)))
          clear hrx hpE hkE hatE hll4 hat4
          obtain ⟨DE, hDE⟩ : ∃ x, x = D := ⟨_, rfl⟩
          obtain ⟨LE, hLE⟩ : ∃ x, x = L4 := ⟨_, rfl⟩
          obtain ⟨AE, hAE⟩ : ∃ x, x = A4 := ⟨_, rfl⟩
          obtain ⟨nE, hnE⟩ : ∃ x, x = n4 := ⟨_, rfl⟩
          obtain ⟨cE, hcE⟩ : ∃ x, x = c4 := ⟨_, rfl⟩
          obtain ⟨atRE, haE⟩ : ∃ x, x = at4 := ⟨_, rfl⟩
          rw [← hDE, ← hLE] at HPE
          rw [← hAE, ← hnE, ← hcE, ← haE] at HBE
          rw [← hAE, ← hnE, ← hLE] at HRE
          rw [← hLE] at HGE
          rw [← hLE, ← hnE] at HLE
          rw [← haE] at HATE HATL
          rw [← hLE] at HLLE
          rw [← hDE] at HDE
          clear hDE hLE hAE hnE hcE haE
          go_upto_region 20 with fail
          have hBE := HBE.out
          have c0 := cell_abv (G := NoG) (w := wE.drew) (hBE.cell 0 _ rfl) (fun h => h)
          have c1 := cell_abv (G := NoG) (w := wE.drew) (hBE.cell 1 _ rfl) (fun h => h)
          have c2 := cell_abv (G := NoG) (w := wE.drew) (hBE.cell 2 _ rfl) (fun h => h)
          clear hBE
          refine wp_region_plan NoG [(0, false), (2, false), (1, true), (3, true), (4, false), (5, false), (6, false), (8, false), (9, false), (10, false), (7, true), (11, false), (12, false)] (by kernel_rfl) (by kernel_rfl) ?_
          repeat (refine plan_take (by simp only [List.getElem?_toArray, List.getElem?_cons_succ, List.getElem?_cons_zero]; exact rfl) ?_; go_big_quiet_step (fail); refine wpQuiet_nil ?_)
          refine plan_solo (by simp only [List.getElem?_toArray, List.getElem?_cons_succ, List.getElem?_cons_zero]; exact rfl) ?_
          go_wp2_with fail
          refine (left_any _ g ct cr DE gs atE LE (HPE.out.keeps (Keeps.drew (Keeps.refl NoG _)) (fun _ _ h => h) (fun _ _ h => h))).mono ?_
          rintro e w7 ⟨rfl, rfl⟩
          go_wp2
          refine Solo.up (Below.refl _ _) ?_
          refine plan_solo (by simp only [List.getElem?_toArray, List.getElem?_cons_succ, List.getElem?_cons_zero]; exact rfl) ?_
          go_wp2_with fail
          refine (rLeft_any AE nE cE As ms cs _ LE _ HRE.out.1.drew HGE.out).mono ?_
          rintro e w8 ⟨rfl, hb8⟩
          clear c0 c1 c2
          have c0 := cell_abv (G := NoG) (w := w8) (((HBE.out.drew).up hb8).cell 0 _ rfl) (fun h => h)
          have HB8 := Lib.hid hb8
          go_wp2
          refine Solo.up HB8.out ?_
          repeat (refine plan_take (by simp only [List.getElem?_toArray, List.getElem?_cons_succ, List.getElem?_cons_zero]; exact rfl) ?_; go_big_quiet_step (fail); refine wpQuiet_nil ?_)
          refine plan_solo (by simp only [List.getElem?_toArray, List.getElem?_cons_succ, List.getElem?_cons_zero]; exact rfl) ?_
          go_wp2_with fail
          refine (texts_any _ g ct cr DE gs atE LE ((HPE.out.keeps (Keeps.drew (Keeps.refl NoG _)) (fun _ _ h => h) (fun _ _ h => h)).up HB8.out)).mono ?_
          rintro e w9 ⟨rfl, rfl⟩
          rw [HLE.out]
          go_wp2
          refine Solo.up (Below.refl _ _) ?_
          repeat (refine plan_take (by simp only [List.getElem?_toArray, List.getElem?_cons_succ, List.getElem?_cons_zero]; exact rfl) ?_; go_big_quiet_step (fail); refine wpQuiet_nil ?_)
          refine plan_end ?_
          clear c0
          have hk8 : Keeps NoG wE w8 := Keeps.of_below (below_of_drew HB8.out)
          have HKE := Lib.hid hk8
          clear hk8
          go_wp2
          go_roundw
          case rel => exact ⟨j + 1, DE, LE, AE, nE, cE, atRE, by omega, by omega, by go_num, by rw [← HATE.out]; exact HPE.out.keeps HKE.out (fun _ _ h => h) (fun _ _ h => h), HGE.out, by have := HLLE.out; omega, HBE.out.keeps HKE.out (fun h => h), HRE.out.keeps HKE.out (fun _ _ h => h), by have := HATL.out; omega, HDE.out, HBelE.out.trans (HKE.out.below.mono (by have := HBelE.out.size; omega))⟩
          case measure => simp [intOf]; omega
        · subst hA
          have q1 : (0 : Int) < nb := by omega
          have q2 : ((nb : Int) == 0) = false := by simp; omega
          have q4 : ((y : Int) % 3 == 0) = false := by simp; omega
          have q5 : ¬ (y : Int) % 3 = 0 := by omega
          go_upto_region 16 with fail
          clear q4 q5
          have hbe : lb ≠ [] := by intro h; rw [h] at hlbl; simp at hlbl; omega
          have ks := str_of (c := cb) HOB.out.rd (Below.refl _ _)
          go_wp2_with fail
          refine (rSend_any AL nL cL As ms cs (atR : Int) L lb _ HRr3.out.1 (by have := HNL.out; omega)).mono ?_
          rintro e w4 ⟨A4, n4, c4, L4, code, rfl, hr4, hb4, hfr, hfacts⟩
          have hroom : L.length < 64 := by omega
          obtain ⟨hL4, hcode⟩ : L4 = L ++ [lb] ∧ code = 0 := by
            rcases hfacts.out with ⟨h, _⟩ | ⟨_, h, _⟩ | ⟨_, _, h, h'⟩
            · exact absurd h hbe
            · omega
            · exact ⟨h, h'⟩
          subst hcode
          have hw4 := hb4.size
          have hrf4 : RdF w4 (Apart g ct cr gW) A4 n4 (sv L4) := ⟨hr4, fun h0 => by
            obtain ⟨ad, ha, _⟩ := hr4.2 h0
            have h3 := hfr hbe hroom ad ha h0
            exact ⟨ad, ha, by omega, fun ht => by have := HLTr.out.1 _ ht; omega⟩⟩
          have hB5 := (HBr3.out.up hb4).alloc (.cells #[.slice A4 n4 c4, .slice As ms cs, .int .i64 atR] 41)
          have HR4 := Lib.hid hrf4
          have HB4 := Lib.hid hb4
          have HL4 := Lib.hid hL4
          have hb5 : Below w4.heap.size w4 (w4.alloc (.cells #[.slice A4 n4 c4, .slice As ms cs, .int .i64 atR] 41)) := (Below.refl _ _).alloc (Nat.le_refl _) _
          have HB5 := Lib.hid hb5
          clear hr4 hb4 hrf4 k0 k1 k2 hb5 hfr hfacts hL4 ks
          go_upto_region 18 with (refine wpList_storeBlk rfl (.tmp 8) (.tmp 86) rfl rfl [.slice A4 n4 c4, .slice As ms cs, .int .i64 atR] rfl rfl (by kernel_rfl) hB5 rfl (by simp [Value.oneCell']) ?_)
          have hB6 := hB5.setRow [.slice A4 n4 c4, .slice As ms cs, .int .i64 atR]
          have hk6 : Keeps (Is gW) w3 ((w4.alloc (.cells #[.slice A4 n4 c4, .slice As ms cs, .int .i64 atR] 41)).setRow gW #[.slice A4 n4 c4, .slice As ms cs, .int .i64 atR]) := (Keeps.of_below (Up.trans HB4.out HB5.out)).trans (keeps_setRow _ _)
          have hk46 : Keeps (Is gW) w4 ((w4.alloc (.cells #[.slice A4 n4 c4, .slice As ms cs, .int .i64 atR] 41)).setRow gW #[.slice A4 n4 c4, .slice As ms cs, .int .i64 atR]) := (Keeps.of_below HB5.out).trans (keeps_setRow _ _)
          generalize (w4.alloc (.cells #[.slice A4 n4 c4, .slice As ms cs, .int .i64 atR] 41)).setRow gW #[.slice A4 n4 c4, .slice As ms cs, .int .i64 atR] = w6 at hB6 hk6 hk46
          have HP6 := Lib.hid (HP3.out.keeps hk6 (fun k ht e => by have e' : k = gW := e; rw [e'] at ht; exact HGT.out ht) (fun k hd e => HDr.out k hd e))
          have HR6 := Lib.hid (HR4.out.keeps hk46 (fun k hk e => hk.1 e))
          have hob6 : OwB w6 wr.heap.size (some ⟨bb, oo, none⟩) nb cb lb := HOB.out.keeps hk6 (fun k hk e => by have e' : k = gW := e; omega)
          have HOB6 := Lib.hid hob6
          have HB6 := Lib.hid hB6
          have HK6 := Lib.hid hk6
          have hw6 := hk6.size
          clear hB5 hB6 hk6 hk46 hob6
          go_wp2_with fail
          refine (send_room g ct cr D gs (atR % ms) L (some ⟨bb, oo, none⟩) nb cb lb _ HP6.out HL.out HOB6.out.rd (by omega) hroom).mono ?_
          rintro e wE ⟨DE, LE, hLE, rfl, hpE, hgE, hdE, hkE⟩
          rw [if_neg hbe] at hLE
          have HLEL : Hid (LE = L4) := Lib.hid (by rw [hLE.out, HL4.out])
          have HPE := Lib.hid hpE
          have HBE := Lib.hid (HB6.out.keeps hkE HGT.out)
          have HRE : Hid (RdF wE (Apart g ct cr gW) A4 n4 (sv LE)) := Lib.hid (by rw [HLEL.out]; exact HR6.out.keeps hkE (fun k hk ht => hk.2 ht))
          have HGE := Lib.hid hgE
          have HLE : Hid (LE.length = n4) := Lib.hid (by have := HRE.out.1.1; rw [sv_length] at this; omega)
          have HLLE : Hid (LE.length ≤ j + 1) := Lib.hid (by rw [hLE.out, List.length_append]; simp; omega)
          have HATL : Hid (atR ≤ j + 1) := Lib.hid (by omega)
          have HDE : Hid (∀ k, DE k → k ≠ gW) := Lib.hid (fun k hk => by
            rcases hdE k hk with h | h
            · exact HDr.out k h
            · omega)
          have HBelE : Hid (Below w1.heap.size w1 wE) := Lib.hid (by
            have k1 : Keeps (fun k => k = gW ∨ Tri g ct cr k) w1 w3 := Keeps.of_below (HBel.out.trans (HB3.out.mono hsz))
            have k2 := (k1.trans (HK6.out.mono fun k _ e => .inl e)).trans (hkE.mono fun k _ e => .inr e)
            exact k2.under (Nat.le_refl _) (fun k hk e => e.elim (fun e => by omega) (fun e => by have := HT.out k e; omega)))
          clear hpE hkE hgE hdE
          obtain ⟨AE, hAE⟩ : ∃ x, x = A4 := ⟨_, rfl⟩
          obtain ⟨nE, hnE⟩ : ∃ x, x = n4 := ⟨_, rfl⟩
          obtain ⟨cE, hcE⟩ : ∃ x, x = c4 := ⟨_, rfl⟩
          obtain ⟨atRE, haE⟩ : ∃ x, x = atR := ⟨_, rfl⟩
          obtain ⟨atE, hatE⟩ : ∃ x, x = atR % ms := ⟨_, rfl⟩
          have HATE : Hid (atE = atRE % ms) := Lib.hid (by rw [hatE, haE])
          rw [← hatE] at HPE
          rw [← hAE, ← hnE, ← hcE, ← haE] at HBE
          rw [← hAE, ← hnE] at HRE
          rw [← hnE] at HLE
          rw [← haE] at HATL
          clear hAE hnE hcE haE hatE
          go_upto_region 20 with fail
          have hBE := HBE.out
          have c0 := cell_abv (G := NoG) (w := wE.drew) (hBE.cell 0 _ rfl) (fun h => h)
          have c1 := cell_abv (G := NoG) (w := wE.drew) (hBE.cell 1 _ rfl) (fun h => h)
          have c2 := cell_abv (G := NoG) (w := wE.drew) (hBE.cell 2 _ rfl) (fun h => h)
          clear hBE
          refine wp_region_plan NoG [(0, false), (2, false), (1, true), (3, true), (4, false), (5, false), (6, false), (8, false), (9, false), (10, false), (7, true), (11, false), (12, false)] (by kernel_rfl) (by kernel_rfl) ?_
          repeat (refine plan_take (by simp only [List.getElem?_toArray, List.getElem?_cons_succ, List.getElem?_cons_zero]; exact rfl) ?_; go_big_quiet_step (fail); refine wpQuiet_nil ?_)
          refine plan_solo (by simp only [List.getElem?_toArray, List.getElem?_cons_succ, List.getElem?_cons_zero]; exact rfl) ?_
          go_wp2_with fail
          refine (left_any _ g ct cr DE gs atE LE (HPE.out.keeps (Keeps.drew (Keeps.refl NoG _)) (fun _ _ h => h) (fun _ _ h => h))).mono ?_
          rintro e w7 ⟨rfl, rfl⟩
          go_wp2
          refine Solo.up (Below.refl _ _) ?_
          refine plan_solo (by simp only [List.getElem?_toArray, List.getElem?_cons_succ, List.getElem?_cons_zero]; exact rfl) ?_
          go_wp2_with fail
          refine (rLeft_any AE nE cE As ms cs _ LE _ HRE.out.1.drew HGE.out).mono ?_
          rintro e w8 ⟨rfl, hb8⟩
          clear c0 c1 c2
          have c0 := cell_abv (G := NoG) (w := w8) (((HBE.out.drew).up hb8).cell 0 _ rfl) (fun h => h)
          have HB8 := Lib.hid hb8
          go_wp2
          refine Solo.up HB8.out ?_
          repeat (refine plan_take (by simp only [List.getElem?_toArray, List.getElem?_cons_succ, List.getElem?_cons_zero]; exact rfl) ?_; go_big_quiet_step (fail); refine wpQuiet_nil ?_)
          refine plan_solo (by simp only [List.getElem?_toArray, List.getElem?_cons_succ, List.getElem?_cons_zero]; exact rfl) ?_
          go_wp2_with fail
          refine (texts_any _ g ct cr DE gs atE LE ((HPE.out.keeps (Keeps.drew (Keeps.refl NoG _)) (fun _ _ h => h) (fun _ _ h => h)).up HB8.out)).mono ?_
          rintro e w9 ⟨rfl, rfl⟩
          rw [HLE.out]
          go_wp2
          refine Solo.up (Below.refl _ _) ?_
          repeat (refine plan_take (by simp only [List.getElem?_toArray, List.getElem?_cons_succ, List.getElem?_cons_zero]; exact rfl) ?_; go_big_quiet_step (fail); refine wpQuiet_nil ?_)
          refine plan_end ?_
          clear c0
          have hk8 : Keeps NoG wE w8 := Keeps.of_below (below_of_drew HB8.out)
          have HKE := Lib.hid hk8
          clear hk8
          go_wp2
          go_roundw
          case rel => exact ⟨j + 1, DE, LE, AE, nE, cE, atRE, by omega, by omega, by go_num, by rw [← HATE.out]; exact HPE.out.keeps HKE.out (fun _ _ h => h) (fun _ _ h => h), HGE.out, by have := HLLE.out; omega, HBE.out.keeps HKE.out (fun h => h), HRE.out.keeps HKE.out (fun _ _ h => h), by have := HATL.out; omega, HDE.out, HBelE.out.trans (HKE.out.below.mono (by have := HBelE.out.size; omega))⟩
          case measure => simp [intOf]; omega
      · by_cases hq1 : j < n1
        · have hd1 : (j : Int) < n1 := by omega
          have hd2 : decide ((j : Int) < 24) = false := by simp; omega
          have hd3 : ¬ (j : Int) < 24 := by omega
          clear hlt2
          go_wp2_with fail
          refine (plives_any _).mono ?_
          rintro e w9 ⟨rfl, hb9⟩
          go_wp2
          go_ret
          exact ⟨rfl, HROW.out.trans (hb9.mono HROW.out.size)⟩
        · have hd2 : decide ((j : Int) < n1) = false := by simp; omega
          have hd3 : ¬ (j : Int) < n1 := by omega
          clear hlt2
          go_wp2_with fail
          refine (plives_any _).mono ?_
          rintro e w9 ⟨rfl, hb9⟩
          go_wp2
          go_ret
          exact ⟨rfl, HROW.out.trans (hb9.mono HROW.out.size)⟩
  · exact absurd (by rw [HGS.out.scr]; exact HGS.out.1) h
end Go.Proofs.Ytojbehblgmpbgaa
