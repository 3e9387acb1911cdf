/-
  Layer 5: the law PipeDrains.
-/
import Derived.Test.YtojbehblgmpbgaaPipeG
namespace Go.Proofs.Ytojbehblgmpbgaa
open Go.RowKit Go.Conc
set_option linter.unusedVariables false
set_option linter.unusedSimpArgs false

/-- Send of a text, where there is room. -/
def SentPost (g ct cr : Nat) (D : Nat → Prop) (ns : List Int) (at_ : Nat) (L : List (List UInt8)) (l : List UInt8) (w : World) (e : Ending) (w' : World) : Prop :=
  ∃ D' L', Hid (L' = if l = [] then L else L ++ [l]) ∧ e = .returned (.int .i64 0) ∧ PL w' g ct cr D' ns at_ L' ∧ GoodL L' ∧ (∀ k, D' k → D k ∨ w.heap.size ≤ k) ∧ Keeps (Tri g ct cr) w w'
theorem send_room (g ct cr : Nat) (D : Nat → Prop) (ns : List Int) (at_ : Nat) (L : List (List UInt8)) (A1 : Option Addr) (n1 c1 : Nat) (l : List UInt8) (w : World) (h : PL w g ct cr D ns at_ L) (hL : GoodL L) (hr : RdB w w.heap.size A1 n1 l) (hn : n1 ≤ 1000) (hroom : L.length < 64) :
    Calls Try.prog 11 #[.pointer (some ⟨g, 0, none⟩), .slice A1 n1 c1] w (SentPost g ct cr D ns at_ L l w) := by
  have hlen := hr.len
  refine (send_any g ct cr D ns at_ L A1 n1 c1 l w h hL hr hn).mono ?_
  rintro e w' (⟨h1, rfl, rfl⟩ | ⟨_, h1, _⟩ | ⟨h1, _, rfl, D', hp, _, hD, hk⟩)
  · exact ⟨D, L, Lib.hid (by rw [if_pos h1]), rfl, h, hL, fun k hk => .inl hk, Keeps.refl _ _⟩
  · omega
  · exact ⟨D', L ++ [l], Lib.hid (by rw [if_neg h1]), rfl, hp, hL.snoc hroom h1 (by omega), hD, hk⟩

/-- The relation of the loop of texts. -/
def DnRel (w1 : World) (g ct cr : Nat) (gs : List Int) (n : Nat) (v i : Value) (wr : World) : Prop :=
  ∃ (j : Nat) (A : Option Addr) (m c : Nat) (la : List UInt8) (D : Nat → Prop) (L : List (List UInt8)), j ≤ n ∧ j ≤ 6 ∧ i = .int .i64 j ∧ v = .slice A m c ∧ OwB wr w1.heap.size A m c la ∧ PL wr g ct cr D gs 0 L ∧ GoodL L ∧ L.length ≤ j ∧ la.length ≤ 30 * j ∧ Hid (la = L.flatten) ∧
    (∀ k, OfA A k → ¬ D k ∧ ¬ Tri g ct cr k) ∧ Below w1.heap.size w1 wr
/-- The relation of the loop of pieces. -/
def DpRel (w0 : World) (ls : List (List UInt8)) (v i : Value) (wr : World) : Prop :=
  ∃ (j : Nat) (A : Option Addr) (m c : Nat) (lb : List UInt8), j ≤ ls.length ∧ i = .int .i64 j ∧ v = .slice A m c ∧ OwB wr w0.heap.size A m c lb ∧ Hid (lb = (ls.take j).flatten) ∧ Below w0.heap.size w0 wr

theorem take_flat {ls : List (List UInt8)} {j : Nat} {p : List UInt8} (h : ls[j]? = some p) : (ls.take (j + 1)).flatten = (ls.take j).flatten ++ p := by
  rw [List.take_add_one, h]; simp
theorem ofA_lt {w : World} {base n c : Nat} {A : Option Addr} {e : TypeId} {size : Nat} {xs : List Value} (h : Own w base e size (.slice A n c) n xs) : ∀ k, OfA A k → base ≤ k ∧ k < w.heap.size := fun k hk => Own.lt h k (by cases A with | none => cases hk | some a => exact hk)

set_option maxRecDepth 100000 in
set_option maxHeartbeats 4000000 in
theorem pipeDrains_walk (A0 : Option Addr) (n0 c0 : Nat) (zs : List Int) (A1 : Option Addr) (n1 c1 : Nat) (l1 : List (List UInt8)) (w : World) (h0 : RdV w w.heap.size A0 n0 (iv zs)) (hz : ∀ z ∈ zs, -9223372036854775808 ≤ z ∧ z ≤ 9223372036854775807) (hn0 : n0 ≤ 9223372036854775807)
    (h1 : RdBB w w.heap.size A1 n1 l1) (hn1 : n1 ≤ 9223372036854775807) :
    Calls Try.prog 6 #[.slice A0 n0 c0, .slice A1 n1 c1] w fun e w' => e = .returned (.bool true) ∧ Below w.heap.size w w' := by
  have H1 := Lib.hid h1
  have HZ := Lib.hid hz
  have H0 := Lib.hid h0
  clear h1 hz h0
  go_enter Try.func6, Try.ntmps6
  go_wp2_with fail
  refine (good_any A0 n0 c0 zs _ H0.out HZ.out hn0).mono ?_
  rintro e w1 ⟨As, ms, cs, gs, hgs, rfl, howns, hb1⟩
  have hgl : gs.length = ms := by rw [← iv_length]; exact howns.len
  have HGS := Lib.hid hgs
  have HOS := Lib.hid howns
  have HB1 := Lib.hid hb1
  have HGLn := Lib.hid hgl
  have hms6 : ms ≤ 6 := by rw [← hgl]; exact hgs.2.1
  have hms1 : 1 ≤ ms := by rw [← hgl]; exact hgs.2.2.1
  have hw01 := hb1.size
  clear hgs howns hb1 hgl
  go_wp2_with fail
  refine (newp_any As ms cs gs _ HOS.out.rd (by omega)).mono ?_
  rintro e w2 (⟨_, g, ct, cr, D, rfl, hpl, ht, hd, hb2⟩ | ⟨h, _⟩)
  · rw [HGS.out.scr] at hpl
    have hlt := hpl.lt
    have HPL := Lib.hid hpl
    have HB2 := Lib.hid hb2
    have HT := Lib.hid ht
    have HLT := Lib.hid hlt
    have hw12 := hb2.size
    clear hpl ht hd hb2 hlt
    go_wp2
    go_loopw [8, 9] (fun v i wr => DnRel w1 g ct cr gs n1 v i wr) (fun _ i _ => 6 - (intOf i).toNat)
    case atStart => exact ⟨0, none, 0, 0, [], D, [], by omega, by omega, rfl, rfl, OwB.nil _ _, HPL.out, GoodL.nil, by simp, by simp, Lib.hid rfl, (fun k hk => by cases hk), HB2.out⟩
    case round =>
      obtain ⟨j, A, m, c, la, D, L, hj, hj6, rfl, rfl, hown, hpl, hL, hll, hla, hcat, hap, hbw⟩ := hrel
      have hrow : Below w.heap.size w wr := HB1.out.trans (hbw.mono hw01)
      have hltr := hpl.lt
      have hA1 := ofA_lt hown
      have hsz := hbw.size
      have hlm : la.length = m := hown.len
      have HOW := Lib.hid hown
      have HPL2 := Lib.hid hpl
      have HL := Lib.hid hL
      have HAP := Lib.hid hap
      have HBW := Lib.hid hbw
      have HLTr := Lib.hid hltr
      have HA1 := Lib.hid hA1
      have HROW := Lib.hid hrow
      clear hown hpl hL hap hbw hltr hA1 hrow
      by_cases hlt2 : j < n1 ∧ j < 6
      · obtain ⟨hl1, hl2⟩ := hlt2
        have j0 : (0 : Int) ≤ j := by omega
        have j1 : (j : Int) < n1 := by omega
        have j2 : (j : Int) < 6 := by omega
        obtain ⟨b, off, li, Ai, ni, ci, hAe, hbb, hli, hc, hri, hci, hcm⟩ := H1.out.at_ hl1
        subst hAe
        have kr := cell_later HROW.out hc
        have HRI := Lib.hid (hri.up HROW.out)
        clear hc hri hli
        go_wp2_with fail
        refine (few_any Ai ni ci li 30 _ HRI.out hci hcm (by omega)).mono ?_
        rintro e w3 ⟨Ab, nb, cb, lb, hlb, rfl, hownb, hb3⟩
        have hlb30 : lb.length ≤ 30 := by rw [hlb.out, List.length_take]; omega
        have hnb : lb.length = nb := hownb.len
        have hw3 := hb3.size
        have HOB := Lib.hid hownb
        have HB3 := Lib.hid hb3
        clear hownb hb3 kr
        go_wp2_with fail
        refine (send_room g ct cr D gs 0 L Ab nb cb lb _ (HPL2.out.up HB3.out) HL.out HOB.out.rd (by omega) (by omega)).mono ?_
        rintro e w4 ⟨D', L', hL', rfl, hpl4, hgl4, hD4, hk4⟩
        have hTlow : ∀ k, wr.heap.size ≤ k → ¬ Tri g ct cr k := fun k hk ht => by have := HLTr.out.1 k ht; omega
        have hob4 : OwB w4 wr.heap.size Ab nb cb lb := HOB.out.keeps hk4 hTlow
        have hal4 : OwB w4 w1.heap.size A m c la := Own.keepsAt (HOW.out.up HB3.out) hk4 (fun k hk => (HAP.out k hk).2)
        have hw4 := hk4.size
        have hlt4 := hpl4.lt
        have hb14 : Below w1.heap.size w1 w4 := HBW.out.trans ((HB3.out.mono hsz).trans (hk4.under (by omega) (fun k hk ht => by have := HT.out k ht; omega)))
        have hap4 : ∀ k, OfA A k → ¬ D' k := fun k hk hd => by
          rcases hD4 k hd with h | h
          · exact (HAP.out k hk).1 h
          · have := HA1.out k hk; omega
        have hLlen : L'.length ≤ j + 1 := by rw [hL'.out]; split <;> (try rw [List.length_append, List.length_singleton]) <;> omega
        have hLcat : L'.flatten = la ++ lb := by
          rw [hL'.out]
          split
          · rename_i h; rw [h, hcat.out]; simp
          · rw [hcat.out]; simp
        have Hsrc := Lib.hid (hob4.rd.src (P := Try.prog) (c := cb) 22 5 Try.underlying22)
        have HAL4 := Lib.hid hal4
        have HPL4 := Lib.hid hpl4
        have HGL4 := Lib.hid hgl4
        have HLT4 := Lib.hid hlt4
        have HB14 := Lib.hid hb14
        have HAP4 := Lib.hid hap4
        have HCAT4 := Lib.hid hLcat
        clear hob4 hal4 hpl4 hgl4 hlt4 hb14 hap4 hLcat hTlow hD4 hk4
        go_upto_region 8 with (at_builtin; go_must (refine wpList_appendBx bytesElem rfl (.tmp 49) (.tmp 50) 22 rfl w1.heap.size A m c la rfl HAL4.out _ rfl nb lb Hsrc.out (by omega) (by omega) ?_); intro A5 n5 c5 l5 w5 hl5 hn5 hown5 hb5 hg5 hblk5; simp only [Act.put, List.setIfInBounds_toArray, List.set_cons_succ, List.set_cons_zero])
        have hpl5 := HPL4.out.keeps (Keeps.of_grown (G := OfA A) hg5 (fun _ h => h)) (fun k ht ha => (HAP.out k ha).2 ht) (fun k hd ha => HAP4.out k ha hd)
        have hap5 : ∀ k, OfA A5 k → ¬ D' k ∧ ¬ Tri g ct cr k := fun k hk => by
          unfold OfA at hk
          rcases hblk5.out with h | h
          · rw [h] at hk
            exact ⟨HAP4.out k hk, (HAP.out k hk).2⟩
          · rw [h] at hk
            injection hk with hk
            exact ⟨fun hd => by have := HLT4.out.2 k hd; omega, fun ht => by have := HLT4.out.1 k ht; omega⟩
        have HPL5 := Lib.hid hpl5
        have HAP5 := Lib.hid hap5
        have HO5 := Lib.hid hown5
        have HB5 := Lib.hid (HB14.out.trans hb5)
        clear hpl5 hap5 hown5 hb5 hg5 hblk5
        go_wp2
        go_roundw
        case rel => exact ⟨j + 1, A5, n5, c5, l5, D', L', by omega, by omega, by go_num, rfl, HO5.out, HPL5.out, HGL4.out, hLlen, by rw [hl5.out, List.length_append]; omega, Lib.hid (by rw [hl5.out, HCAT4.out]), HAP5.out, HB5.out⟩
        case measure => simp [intOf]; omega
      · have hend : ¬ ((j : Int) < n1 ∧ (j : Int) < 6) := by omega
        obtain ⟨f, hf, hE⟩ := ends_may HGS.out.1 0 (by rw [HGLn.out]; omega) L
        have hf2 : f ≤ 1000000 := by
          have h1 := HL.out.total_le
          have h2 := HGLn.out
          have h3 : total L * gs.length ≤ 64000 * 6 := Nat.mul_le_mul h1 (by omega)
          omega
        have HE := Lib.hid hE
        clear hf hE
        by_cases hq1 : j < n1
        · have hd1 : (j : Int) < n1 := by omega
          have hd2 : decide ((j : Int) < 6) = false := by simp; omega
          have hd3 : ¬ (j : Int) < 6 := by omega
          clear hend hlt2
          go_wp2_with fail
          refine (drain_any g ct cr D gs 0 L f _ HPL2.out HL.out HGS.out.sizes (by rw [HGLn.out]; omega) hf2 HE.out).mono ?_
          rintro e w3 ⟨Ad, nd, cd, ls, at_, hls, rfl, hownd, hpl3, hat3, hk3⟩
          have hnd : ls.length = nd := hownd.len
          have hnd6 : nd ≤ 1000000 := by rw [← hnd, hls.out]; exact Nat.le_trans (pieces_len _ _ _ _) hf2
          have hall3 : OwB w3 w1.heap.size A m c la := Own.keepsAt HOW.out hk3 (fun k hk => (HAP.out k hk).2)
          have hb13 : Below w1.heap.size w1 w3 := HBW.out.trans (hk3.under (by omega) (fun k hk ht => by have := HT.out k ht; omega))
          have hgs3 := HOS.out.rd.up hb13
          have hflat : ls.flatten = la := by rw [hls.out, pieces_flat f gs 0 L HE.out, hcat.out]
          have hplen : ∀ (i : Nat) (p : List UInt8), ls[i]? = some p → p.length = min (gs.getD (i % ms) 0).toNat (la.length - (ls.take i).flatten.length) := by
            intro i p hp
            have := piece_len f gs 0 L (by rw [HGLn.out]; omega) (by rw [HGLn.out]; omega) i p (by rw [← hls.out]; exact hp)
            rw [this, ← hls.out, HGLn.out, Nat.zero_add, hcat.out]
            rfl
          have HAL3 := Lib.hid hall3
          have HB13 := Lib.hid hb13
          have HGS3 := Lib.hid hgs3
          have HFL := Lib.hid hflat
          have HPN := Lib.hid hplen
          have HOD := Lib.hid hownd
          have HPL3 := Lib.hid hpl3
          have HND := Lib.hid hnd
          have hw13 := hb13.size
          clear hall3 hb13 hgs3 hflat hplen hownd hpl3 hk3 hnd
          obtain ⟨bg, og, hAs, hbg, hgc⟩ := HGS3.out.ints (by omega)
          have HGC := Lib.hid hgc
          subst hAs
          clear hgc
          go_wp2
          go_loopw [12, 13] (fun v i wr' => DpRel w3 ls v i wr') (fun _ i _ => nd - (intOf i).toNat)
          case atStart => exact ⟨0, none, 0, 0, [], by omega, rfl, rfl, OwB.nil _ _, Lib.hid (by simp), Below.refl _ _⟩
          case round =>
            obtain ⟨i, Ab, mb, cb, lb, hi, rfl, rfl, hownb, hlb, hbb⟩ := hrel
            obtain ⟨wB, rfl⟩ : ∃ x, x = wr := ⟨_, rfl⟩
            have hbl : lb.length = mb := hownb.len
            have hbl2 : lb.length ≤ la.length := by
              rw [hlb.out, ← HFL.out]
              conv => rhs; rw [← List.take_append_drop i ls]
              rw [List.flatten_append, List.length_append]
              omega
            have HOB := Lib.hid hownb
            have HBB := Lib.hid hbb
            have hw3b := hbb.size
            clear hownb hbb
            by_cases hlti : i < ls.length
            · have hin : i < nd := by rw [← HND.out]; exact hlti
              have i1 : (i : Int) < nd := by omega
              have i0 : (0 : Int) ≤ i := by omega
              obtain ⟨bd, od, p, Ap, np, cp, hAd, hbd, hp, hcp, hrp, hcp1, hcp2⟩ := (HOD.out.rd).at_ hin
              subst hAd
              have hpl := HPN.out i p hp
              obtain ⟨z, hz2, hzc⟩ := HGC.out (i % ms) (Nat.mod_lt _ (by omega))
              have hzg : gs.getD (i % ms) 0 = z := by rw [List.getD_eq_getElem?_getD, hz2]; rfl
              have hz9 := HGS.out.2.2.2 z (List.mem_of_getElem? hz2)
              rw [hzg, ← hlb.out] at hpl
              have hnp : p.length = np := hrp.len
              have kp := cell_later HBB.out hcp
              have kz := cell_later HBB.out hzc
              have hmodI : (i : Int) % ms = ((i % ms : Nat) : Int) := by rw [Int.natCast_emod]
              obtain ⟨r, hr⟩ : ∃ r, r = i % ms := ⟨_, rfl⟩
              rw [← hr] at kz hmodI
              have hrm : r < ms := by rw [hr]; exact Nat.mod_lt _ (by omega)
              have hmodT : Int.tmod (i : Int) ms = r := by rw [Int.tmod_eq_emod_of_nonneg (by omega)]; exact hmodI
              have r0 : (0 : Int) ≤ r := by omega
              have r1 : (r : Int) < ms := by omega
              have hms0 : ((ms : Int) == 0) = false := by simp; omega
              have hwant : (if ((m : Int) - mb) < z then ((m : Int) - mb) else z) = np := by rw [← hnp, hpl]; split <;> omega
              have Hsrc := Lib.hid ((hrp.up HBB.out).src (P := Try.prog) (c := cp) 22 5 Try.underlying22)
              have HP := Lib.hid hp
              have hmm : mb + np ≤ 1000 := by omega
              clear hcp hzc hp hpl hrp hr hz2 hzg
              go_wp2_with (at_builtin; go_must (refine wpList_appendB bytesElem rfl (.tmp 80) (.tmp 84) 22 rfl w3.heap.size Ab mb cb lb rfl HOB.out _ rfl np p Hsrc.out (by omega) (by omega) ?_); intro A6 n6 c6 l6 w6 hl6 hn6 hown6 hb6 hg6; simp only [Act.put, List.setIfInBounds_toArray, List.set_cons_succ, List.set_cons_zero])
              go_roundw
              case rel => exact ⟨i + 1, A6, n6, c6, l6, by rw [HND.out]; omega, by go_num, rfl, hown6, Lib.hid (by rw [hl6.out, hlb.out, take_flat HP.out]), HBB.out.trans hb6⟩
              case measure => simp [intOf]; omega
            · obtain rfl : i = ls.length := by omega
              have hnd' : nd = ls.length := HND.out.symm
              subst hnd'
              have hjj : ¬ ((ls.length : Int) < ls.length) := by omega
              have hlbe : lb = la := by rw [hlb.out, List.take_length, HFL.out]
              subst hlbe
              have HPLB := Lib.hid (HPL3.out.up HBB.out)
              go_wp2_with fail
              refine (next_none g ct cr D gs at_ _ HPLB.out).mono ?_
              rintro e w7 ⟨rfl, rfl⟩
              have ks := str_of (c := cb) HOB.out.rd (Below.refl _ _)
              have ks2 := str_of (c := c) (HAL3.out.rd.up HBB.out) (Below.refl _ _)
              go_wp2_with fail
              refine (left_any _ g ct cr D gs at_ [] HPLB.out).mono ?_
              rintro e w8 ⟨rfl, rfl⟩
              have hzero : ((total [] : Nat) : Int) = 0 := rfl
              rw [hzero]
              go_wp2_with fail
              refine (texts_any _ g ct cr D gs at_ [] HPLB.out).mono ?_
              rintro e w8 ⟨rfl, rfl⟩
              have hzero2 : (([] : List (List UInt8)).length : Int) = 0 := rfl
              rw [hzero2]
              go_wp2_with fail
              refine (plives_any _).mono ?_
              rintro e w9 ⟨rfl, hb9⟩
              go_wp2
              go_ret
              exact ⟨rfl, HB1.out.trans ((HB13.out.trans ((Up.trans HBB.out hb9).mono hw13)).mono hw01)⟩
        · have hd2 : decide ((j : Int) < n1) = false := by simp; omega
          have hd3 : ¬ (j : Int) < n1 := by omega
          clear hend hlt2
          go_wp2_with fail
          refine (drain_any g ct cr D gs 0 L f _ HPL2.out HL.out HGS.out.sizes (by rw [HGLn.out]; omega) hf2 HE.out).mono ?_
          rintro e w3 ⟨Ad, nd, cd, ls, at_, hls, rfl, hownd, hpl3, hat3, hk3⟩
          have hnd : ls.length = nd := hownd.len
          have hnd6 : nd ≤ 1000000 := by rw [← hnd, hls.out]; exact Nat.le_trans (pieces_len _ _ _ _) hf2
          have hall3 : OwB w3 w1.heap.size A m c la := Own.keepsAt HOW.out hk3 (fun k hk => (HAP.out k hk).2)
          have hb13 : Below w1.heap.size w1 w3 := HBW.out.trans (hk3.under (by omega) (fun k hk ht => by have := HT.out k ht; omega))
          have hgs3 := HOS.out.rd.up hb13
          have hflat : ls.flatten = la := by rw [hls.out, pieces_flat f gs 0 L HE.out, hcat.out]
          have hplen : ∀ (i : Nat) (p : List UInt8), ls[i]? = some p → p.length = min (gs.getD (i % ms) 0).toNat (la.length - (ls.take i).flatten.length) := by
            intro i p hp
            have := piece_len f gs 0 L (by rw [HGLn.out]; omega) (by rw [HGLn.out]; omega) i p (by rw [← hls.out]; exact hp)
            rw [this, ← hls.out, HGLn.out, Nat.zero_add, hcat.out]
            rfl
          have HAL3 := Lib.hid hall3
          have HB13 := Lib.hid hb13
          have HGS3 := Lib.hid hgs3
          have HFL := Lib.hid hflat
          have HPN := Lib.hid hplen
          have HOD := Lib.hid hownd
          have HPL3 := Lib.hid hpl3
          have HND := Lib.hid hnd
          have hw13 := hb13.size
          clear hall3 hb13 hgs3 hflat hplen hownd hpl3 hk3 hnd
          obtain ⟨bg, og, hAs, hbg, hgc⟩ := HGS3.out.ints (by omega)
          have HGC := Lib.hid hgc
          subst hAs
          clear hgc
          go_wp2
          go_loopw [12, 13] (fun v i wr' => DpRel w3 ls v i wr') (fun _ i _ => nd - (intOf i).toNat)
          case atStart => exact ⟨0, none, 0, 0, [], by omega, rfl, rfl, OwB.nil _ _, Lib.hid (by simp), Below.refl _ _⟩
          case round =>
            obtain ⟨i, Ab, mb, cb, lb, hi, rfl, rfl, hownb, hlb, hbb⟩ := hrel
            obtain ⟨wB, rfl⟩ : ∃ x, x = wr := ⟨_, rfl⟩
            have hbl : lb.length = mb := hownb.len
            have hbl2 : lb.length ≤ la.length := by
              rw [hlb.out, ← HFL.out]
              conv => rhs; rw [← List.take_append_drop i ls]
              rw [List.flatten_append, List.length_append]
              omega
            have HOB := Lib.hid hownb
            have HBB := Lib.hid hbb
            have hw3b := hbb.size
            clear hownb hbb
            by_cases hlti : i < ls.length
            · have hin : i < nd := by rw [← HND.out]; exact hlti
              have i1 : (i : Int) < nd := by omega
              have i0 : (0 : Int) ≤ i := by omega
              obtain ⟨bd, od, p, Ap, np, cp, hAd, hbd, hp, hcp, hrp, hcp1, hcp2⟩ := (HOD.out.rd).at_ hin
              subst hAd
              have hpl := HPN.out i p hp
              obtain ⟨z, hz2, hzc⟩ := HGC.out (i % ms) (Nat.mod_lt _ (by omega))
              have hzg : gs.getD (i % ms) 0 = z := by rw [List.getD_eq_getElem?_getD, hz2]; rfl
              have hz9 := HGS.out.2.2.2 z (List.mem_of_getElem? hz2)
              rw [hzg, ← hlb.out] at hpl
              have hnp : p.length = np := hrp.len
              have kp := cell_later HBB.out hcp
              have kz := cell_later HBB.out hzc
              have hmodI : (i : Int) % ms = ((i % ms : Nat) : Int) := by rw [Int.natCast_emod]
              obtain ⟨r, hr⟩ : ∃ r, r = i % ms := ⟨_, rfl⟩
              rw [← hr] at kz hmodI
              have hrm : r < ms := by rw [hr]; exact Nat.mod_lt _ (by omega)
              have hmodT : Int.tmod (i : Int) ms = r := by rw [Int.tmod_eq_emod_of_nonneg (by omega)]; exact hmodI
              have r0 : (0 : Int) ≤ r := by omega
              have r1 : (r : Int) < ms := by omega
              have hms0 : ((ms : Int) == 0) = false := by simp; omega
              have hwant : (if ((m : Int) - mb) < z then ((m : Int) - mb) else z) = np := by rw [← hnp, hpl]; split <;> omega
              have Hsrc := Lib.hid ((hrp.up HBB.out).src (P := Try.prog) (c := cp) 22 5 Try.underlying22)
              have HP := Lib.hid hp
              have hmm : mb + np ≤ 1000 := by omega
              clear hcp hzc hp hpl hrp hr hz2 hzg
              go_wp2_with (at_builtin; go_must (refine wpList_appendB bytesElem rfl (.tmp 80) (.tmp 84) 22 rfl w3.heap.size Ab mb cb lb rfl HOB.out _ rfl np p Hsrc.out (by omega) (by omega) ?_); intro A6 n6 c6 l6 w6 hl6 hn6 hown6 hb6 hg6; simp only [Act.put, List.setIfInBounds_toArray, List.set_cons_succ, List.set_cons_zero])
              go_roundw
              case rel => exact ⟨i + 1, A6, n6, c6, l6, by rw [HND.out]; omega, by go_num, rfl, hown6, Lib.hid (by rw [hl6.out, hlb.out, take_flat HP.out]), HBB.out.trans hb6⟩
              case measure => simp [intOf]; omega
            · obtain rfl : i = ls.length := by omega
              have hnd' : nd = ls.length := HND.out.symm
              subst hnd'
              have hjj : ¬ ((ls.length : Int) < ls.length) := by omega
              have hlbe : lb = la := by rw [hlb.out, List.take_length, HFL.out]
              subst hlbe
              have HPLB := Lib.hid (HPL3.out.up HBB.out)
              go_wp2_with fail
              refine (next_none g ct cr D gs at_ _ HPLB.out).mono ?_
              rintro e w7 ⟨rfl, rfl⟩
              have ks := str_of (c := cb) HOB.out.rd (Below.refl _ _)
              have ks2 := str_of (c := c) (HAL3.out.rd.up HBB.out) (Below.refl _ _)
              go_wp2_with fail
              refine (left_any _ g ct cr D gs at_ [] HPLB.out).mono ?_
              rintro e w8 ⟨rfl, rfl⟩
              have hzero : ((total [] : Nat) : Int) = 0 := rfl
              rw [hzero]
              go_wp2_with fail
              refine (texts_any _ g ct cr D gs at_ [] HPLB.out).mono ?_
              rintro e w8 ⟨rfl, rfl⟩
              have hzero2 : (([] : List (List UInt8)).length : Int) = 0 := rfl
              rw [hzero2]
              go_wp2_with fail
              refine (plives_any _).mono ?_
              rintro e w9 ⟨rfl, hb9⟩
              go_wp2
              go_ret
              exact ⟨rfl, HB1.out.trans ((HB13.out.trans ((Up.trans HBB.out hb9).mono hw13)).mono hw01)⟩
  · exact absurd (by rw [HGS.out.scr]; exact HGS.out.1) h
end Go.Proofs.Ytojbehblgmpbgaa
