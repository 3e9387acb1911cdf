/-
  Layer 5: the law PipeSame.
-/
import Derived.Test.YtojbehblgmpbgaaLawPDrains
namespace Go.Proofs.Ytojbehblgmpbgaa
open Go.RowKit Go.Conc
set_option linter.unusedVariables false
set_option linter.unusedSimpArgs false

/-- The relation of the loop of texts. -/
def SmRel (w : World) (g ct cr g' ct' cr' : Nat) (gs gs' : List Int) (n : Nat) (i : Value) (wr : World) : Prop :=
  ∃ (j : Nat) (D D2 : Nat → Prop) (L : List (List UInt8)), j ≤ n ∧ j ≤ 6 ∧ i = .int .i64 j ∧ PL wr g ct cr D gs 0 L ∧ PL wr g' ct' cr' D2 gs' 0 L ∧ GoodL L ∧ L.length ≤ j ∧
    (∀ k, D k → ¬ Tri g' ct' cr' k) ∧ (∀ k, D2 k → ¬ Tri g ct cr k) ∧ Below w.heap.size w wr
/-- The relation of a loop that joins texts. -/
def StRel (w : World) (ls : List (List UInt8)) (v i : Value) (wr : World) : Prop := ∃ j : Nat, j ≤ ls.length ∧ i = .int .i64 j ∧ v = .string (st (ls.take j).flatten) ∧ wr = w

set_option maxRecDepth 100000 in
set_option maxHeartbeats 4000000 in
theorem pipeSame_walk (A0 : Option Addr) (n0 c0 : Nat) (zs : List Int) (A0' : Option Addr) (n0' c0' : Nat) (zs' : List Int) (A1 : Option Addr) (n1 c1 : Nat) (l1 : List (List UInt8)) (w : World)
    (h0 : RdV w w.heap.size A0 n0 (iv zs)) (hz : ∀ z ∈ zs, -9223372036854775808 ≤ z ∧ z ≤ 9223372036854775807) (hn0 : n0 ≤ 9223372036854775807)
    (h0' : RdV w w.heap.size A0' n0' (iv zs')) (hz' : ∀ z ∈ zs', -9223372036854775808 ≤ z ∧ z ≤ 9223372036854775807) (hn0' : n0' ≤ 9223372036854775807)
    (h1 : RdBB w w.heap.size A1 n1 l1) (hn1 : n1 ≤ 9223372036854775807) :
    Calls Try.prog 8 #[.slice A0 n0 c0, .slice A0' n0' c0', .slice A1 n1 c1] w fun e w' => e = .returned (.bool true) ∧ Below w.heap.size w w' := by
  have H1 := Lib.hid h1
  have HZ := Lib.hid hz
  have H0 := Lib.hid h0
  have HZ' := Lib.hid hz'
  have H0' := Lib.hid h0'
  clear h1 hz h0 hz' h0'
  go_enter Try.func8, Try.ntmps8
  go_wp2_with fail
  refine (good_any A0 n0 c0 zs _ H0.out HZ.out hn0).mono ?_
  rintro e w1 ⟨As, ms, cs, gs, hgs, rfl, howns, hb1⟩
  have HGS := Lib.hid hgs
  have hms : ms ≤ 6 := by rw [← howns.len, iv_length]; exact hgs.2.1
  have HOS := Lib.hid howns
  have HB1 := Lib.hid hb1
  have hw01 := hb1.size
  clear hgs howns hb1
  go_wp2_with fail
  refine (newp_any As ms cs gs _ HOS.out.rd (by omega)).mono ?_
  rintro e w2 (⟨_, g, ct, cr, D, rfl, hpl, ht, hd, hb2⟩ | ⟨h, _⟩)
  · rw [HGS.out.scr] at hpl
    have hb02 : Below w.heap.size w w2 := HB1.out.trans (hb2.mono hw01)
    have hlt := hpl.lt
    have HPL := Lib.hid hpl
    have HB2 := Lib.hid hb02
    have hT1 : ∀ k, k < w.heap.size → ¬ Tri g ct cr k := fun k hk h => by have := ht k h; omega
    have HT1 := Lib.hid hT1
    have HLT := Lib.hid hlt
    have hw02 := hb02.size
    clear hpl ht hd hb2 hlt hb02 hT1
    go_wp2_with fail
    refine (good_any A0' n0' c0' zs' _ (H0'.out.up HB2.out) HZ'.out hn0').mono ?_
    rintro e w3 ⟨As', ms', cs', gs', hgs', rfl, howns', hb3⟩
    have HGS' := Lib.hid hgs'
    have hms' : ms' ≤ 6 := by rw [← howns'.len, iv_length]; exact hgs'.2.1
    have HOS' := Lib.hid howns'
    have HB3 := Lib.hid hb3
    have hw23 := hb3.size
    clear hgs' howns' hb3
    go_wp2_with fail
    refine (newp_any As' ms' cs' gs' _ HOS'.out.rd (by omega)).mono ?_
    rintro e w4 (⟨_, g', ct', cr', D2, rfl, hpl', ht', hd', hb4⟩ | ⟨h, _⟩)
    · rw [HGS'.out.scr] at hpl'
      have hlt' := hpl'.lt
      have hb24 := Up.trans HB3.out hb4
      have HPL2 := Lib.hid hpl'
      have HPL1 := Lib.hid (HPL.out.up hb24)
      have hT2 : ∀ k, k < w.heap.size → ¬ Tri g' ct' cr' k := fun k hk h => by have := ht' k h; omega
      have HT2 := Lib.hid hT2
      have hTT : ∀ k, Tri g ct cr k → ¬ Tri g' ct' cr' k := fun k h h' => by have := HLT.out.1 k h; have := ht' k h'; omega
      have HTT := Lib.hid hTT
      have hD1 : ∀ k, D k → ¬ Tri g' ct' cr' k := fun k h h' => by have := HLT.out.2 k h; have := ht' k h'; omega
      have hD2 : ∀ k, D2 k → ¬ Tri g ct cr k := fun k h h' => by have := HLT.out.1 k h'; have := hd' k h; omega
      have HD10 := Lib.hid hD1
      have HD20 := Lib.hid hD2
      have HB4 := Lib.hid (HB2.out.trans (hb24.mono hw02))
      clear hpl' hlt' hT2 hTT hD1 hD2 ht' hd' hb4 hb24
      go_wp2
      go_loopw [11] (fun i wr => SmRel w g ct cr g' ct' cr' gs gs' n1 i wr) (fun i _ => 6 - (intOf i).toNat)
      case atStart => exact ⟨0, D, D2, [], by omega, by omega, rfl, HPL1.out, HPL2.out, GoodL.nil, by simp, HD10.out, HD20.out, HB4.out⟩
      case round =>
        obtain ⟨j, D, D2, L, hj, hj6, rfl, hp, hq, hL, hll, hd1, hd2, hbw⟩ := hrel
        have hltp := hp.lt
        have hltq := hq.lt
        have hsz := hbw.size
        have HPp := Lib.hid hp
        have HPq := Lib.hid hq
        have HL := Lib.hid hL
        have HD1 := Lib.hid hd1
        have HD2 := Lib.hid hd2
        have HBW := Lib.hid hbw
        have HLp := Lib.hid hltp
        have HLq := Lib.hid hltq
        clear hp hq hL hd1 hd2 hbw hltp hltq HPL HPL1 HPL2 HD10 HD20
        by_cases hlt2 : j < n1 ∧ j < 6
        · obtain ⟨hl1, hl2⟩ := hlt2
          have j0 : (0 : Int) ≤ j := by omega
          have j1 : (j : Int) < n1 := by omega
          have j2 : (j : Int) < 6 := by omega
          obtain ⟨b, off, li, Ai, ni, ci, hAe, hbb, hli, hc, hri, hci, hcm⟩ := H1.out.at_ hl1
          subst hAe
          have kr := cell_later HBW.out hc
          have HRI := Lib.hid (hri.up HBW.out)
          clear hc hri hli
          go_wp2_with fail
          refine (few_any Ai ni ci li 30 _ HRI.out hci hcm (by omega)).mono ?_
          rintro e w3 ⟨Ab, nb, cb, lb, hlb, rfl, hownb, hb3⟩
          have hlb30 : lb.length ≤ 30 := by rw [hlb.out, List.length_take]; omega
          have hnb : lb.length = nb := hownb.len
          have hw3 := hb3.size
          have HOB := Lib.hid hownb
          have HB3' := Lib.hid hb3
          clear hownb hb3 kr
          go_wp2_with fail
          refine (send_room g ct cr D gs 0 L Ab nb cb lb _ (HPp.out.up HB3'.out) HL.out HOB.out.rd (by omega) (by omega)).mono ?_
          rintro e w5 ⟨D', L', hL', rfl, hpl5, hgl5, hD5, hk5⟩
          have hq5 := (HPq.out.up HB3'.out).keeps hk5 (fun k ht ht' => HTT.out k ht' ht) HD2.out
          have hob5 : OwB w5 wr.heap.size Ab nb cb lb := HOB.out.keeps hk5 (fun k hk ht => by have := HLp.out.1 k ht; omega)
          have hd15 : ∀ k, D' k → ¬ Tri g' ct' cr' k := fun k hk ht => by
            rcases hD5 k hk with h | h
            · exact HD1.out k h ht
            · have := HLq.out.1 k ht; omega
          have hb5 : Below w.heap.size w w5 := HBW.out.trans ((HB3'.out.mono hsz).trans (hk5.under (by omega) HT1.out))
          have hltp5 := hpl5.lt
          have hlt5 : ∀ k, Tri g ct cr k → k < w5.heap.size := hltp5.1
          have HPp5 := Lib.hid hpl5
          have HPq5 := Lib.hid hq5
          have HOB5 := Lib.hid hob5
          have HD15 := Lib.hid hd15
          have HB5 := Lib.hid hb5
          have HL5 := Lib.hid hgl5
          have HT5 := Lib.hid hlt5
          have hw5 := hb5.size
          clear hq5 hob5 hd15 hb5 hpl5 hD5 hk5 hlt5 hltp5 hgl5
          go_wp2_with fail
          refine (send_room g' ct' cr' D2 gs' 0 L Ab nb cb lb _ HPq5.out HL.out HOB5.out.rd (by omega) (by omega)).mono ?_
          rintro e w6 ⟨D2', L2, hL2, rfl, hpl6, hgl6, hD6, hk6⟩
          obtain rfl : L2 = L' := hL2.out.trans hL'.out.symm
          have hp6 := HPp5.out.keeps hk6 HTT.out HD15.out
          have hd26 : ∀ k, D2' k → ¬ Tri g ct cr k := fun k hk ht => by
            rcases hD6 k hk with h | h
            · exact HD2.out k h ht
            · have := HT5.out k ht; omega
          have hLlen : L2.length ≤ j + 1 := by rw [hL'.out]; split <;> (try rw [List.length_append, List.length_singleton]) <;> omega
          have HPp6 := Lib.hid hp6
          have HPq6 := Lib.hid hpl6
          have HD26 := Lib.hid hd26
          have HB6 := Lib.hid (HB5.out.trans (hk6.under (by omega) HT2.out))
          clear hp6 hpl6 hd26 hD6 hk6 hgl6
          go_wp2_with fail
          refine (left_any _ g ct cr D' gs 0 _ HPp6.out).mono ?_
          rintro e w7 ⟨rfl, rfl⟩
          go_wp2_with fail
          refine (left_any _ g' ct' cr' D2' gs' 0 _ HPq6.out).mono ?_
          rintro e w7 ⟨rfl, rfl⟩
          go_wp2_with fail
          refine (texts_any _ g ct cr D' gs 0 _ HPp6.out).mono ?_
          rintro e w7 ⟨rfl, rfl⟩
          go_wp2_with fail
          refine (texts_any _ g' ct' cr' D2' gs' 0 _ HPq6.out).mono ?_
          rintro e w7 ⟨rfl, rfl⟩
          go_wp2
          go_roundw
          case rel => exact ⟨j + 1, D', D2', L2, by omega, by omega, by go_num, HPp6.out, HPq6.out, HL5.out, hLlen, HD15.out, HD26.out, HB6.out⟩
          case measure => simp [intOf]; omega
        · obtain ⟨f, hf, hE⟩ := ends_may HGS.out.1 0 (by have := HGS.out.2.2.1; omega) L
          obtain ⟨f', hf', hE'⟩ := ends_may HGS'.out.1 0 (by have := HGS'.out.2.2.1; omega) L
          have hf2 : f ≤ 1000000 := by
            have h1 := HL.out.total_le
            have h2 := HGS.out.2.1
            have h3 : total L * gs.length ≤ 64000 * 6 := Nat.mul_le_mul h1 h2
            omega
          have hf2' : f' ≤ 1000000 := by
            have h1 := HL.out.total_le
            have h2 := HGS'.out.2.1
            have h3 : total L * gs'.length ≤ 64000 * 6 := Nat.mul_le_mul h1 h2
            omega
          have HE := Lib.hid hE
          have HE' := Lib.hid hE'
          clear hf hE hf' hE'
          by_cases hq1 : j < n1
          · have hd1 : (j : Int) < n1 := by omega
            have hd2 : decide ((j : Int) < 6) = false := by simp; omega
            have hd3 : ¬ (j : Int) < 6 := by omega
            clear hlt2
            go_wp2_with fail
            refine (drain_any g ct cr D gs 0 L f _ HPp.out HL.out HGS.out.sizes (by have := HGS.out.2.2.1; omega) hf2 HE.out).mono ?_
            rintro e w3 ⟨Ad, nd, cd, ls, at_, hls, rfl, hownd, hpl3, hat3, hk3⟩
            have hnd : ls.length = nd := hownd.len
            have hnd6 : nd ≤ 1000000 := by rw [← hnd, hls.out]; exact Nat.le_trans (pieces_len _ _ _ _) hf2
            have hflat : ls.flatten = L.flatten := by rw [hls.out, pieces_flat f gs 0 L HE.out]
            have hq3 := HPq.out.keeps hk3 (fun k ht ht' => HTT.out k ht' ht) HD2.out
            have hb3 : Below w.heap.size w w3 := HBW.out.trans (hk3.under (by omega) HT1.out)
            have HFL := Lib.hid hflat
            have HOD := Lib.hid hownd
            have HQ3 := Lib.hid hq3
            have HND := Lib.hid hnd
            have HB3 := Lib.hid hb3
            have hw3 := hb3.size
            clear hflat hownd hpl3 hk3 hnd hq3 hb3
            have st0 : ByteArray.mk #[] = st [] := rfl
            go_wp2
            go_loopw [13, 16] (fun v i wr' => StRel w3 ls v i wr') (fun _ i _ => nd - (intOf i).toNat)
            case atStart => exact ⟨0, by omega, rfl, rfl, rfl⟩
            case round =>
              obtain ⟨i, hi, rfl, rfl, rfl⟩ := hrel
              by_cases hlti : i < ls.length
              · have hin : i < nd := by rw [← HND.out]; exact hlti
                have i1 : (i : Int) < nd := by omega
                have i0 : (0 : Int) ≤ i := by omega
                obtain ⟨bd, od, p, Ap, np, cp, hAd, hbd, hp, hcp, hrp, hcp1, hcp2⟩ := (HOD.out.rd).at_ hin
                subst hAd
                have ks := str_of (c := cp) hrp (Below.refl _ _)
                have hcat := take_flat hp
                have happ := st_append (ls.take i).flatten p
                have hsum : (st (ls.take i).flatten).size + (st p).size ≤ 9223372036854775807 := by
                  rw [st_size, st_size]
                  have h1 := congrArg List.length hcat
                  rw [List.length_append] at h1
                  have h2 : (ls.take (i + 1)).flatten.length ≤ ls.flatten.length := by
                    conv => rhs; rw [← List.take_append_drop (i + 1) ls]
                    rw [List.flatten_append, List.length_append]
                    omega
                  have h3 := HL.out.total_le
                  rw [HFL.out] at h2
                  unfold total at h3
                  omega
                have hsum2 : ¬ 9223372036854775807 < (st (ls.take i).flatten).size + (st p).size := by omega
                rw [← hcat] at happ
                clear hp hrp hcat
                go_wp2
                go_roundw
                case rel => exact ⟨i + 1, by rw [HND.out]; omega, by go_num, rfl, rfl⟩
                case measure => simp [intOf]; omega
              · obtain rfl : i = ls.length := by omega
                have hnd' : nd = ls.length := HND.out.symm
                subst hnd'
                have hjj : ¬ ((ls.length : Int) < ls.length) := by omega
                obtain ⟨x, hx⟩ : ∃ x, x = (ls.take ls.length).flatten := ⟨_, rfl⟩
                have hxe : x = L.flatten := by rw [hx, List.take_length, HFL.out]
                rw [← hx]
                have HX := Lib.hid hxe
                clear hx hxe
                obtain ⟨wB, rfl⟩ : ∃ y, y = wr := ⟨_, rfl⟩
                go_wp2_with fail
                refine (drain_any g' ct' cr' D2 gs' 0 L f' _ HQ3.out HL.out HGS'.out.sizes (by have := HGS'.out.2.2.1; omega) hf2' HE'.out).mono ?_
                rintro e w4 ⟨Ae, ne, ce, ls2, at2, hls2, rfl, hownd2, hpl4, hat4, hk4⟩
                have hne : ls2.length = ne := hownd2.len
                have hne6 : ne ≤ 1000000 := by rw [← hne, hls2.out]; exact Nat.le_trans (pieces_len _ _ _ _) hf2'
                have hflat2 : ls2.flatten = L.flatten := by rw [hls2.out, pieces_flat f' gs' 0 L HE'.out]
                have hb4 : Below w.heap.size w w4 := HB3.out.trans (hk4.under hw3 HT2.out)
                have HFL2 := Lib.hid hflat2
                have HOD2 := Lib.hid hownd2
                have HNE := Lib.hid hne
                have HB4 := Lib.hid hb4
                have hw4 := hb4.size
                clear hflat2 hownd2 hpl4 hk4 hne hb4
                go_wp2
                go_loopw [14, 18] (fun v i wr' => StRel w4 ls2 v i wr') (fun _ i _ => ne - (intOf i).toNat)
                case atStart => exact ⟨0, by omega, rfl, rfl, rfl⟩
                case round =>
                  obtain ⟨i, hi, rfl, rfl, rfl⟩ := hrel
                  by_cases hlti : i < ls2.length
                  · have hin : i < ne := by rw [← HNE.out]; exact hlti
                    have i1 : (i : Int) < ne := by omega
                    have i0 : (0 : Int) ≤ i := by omega
                    obtain ⟨bd, od, p, Ap, np, cp, hAd, hbd, hp, hcp, hrp, hcp1, hcp2⟩ := (HOD2.out.rd).at_ hin
                    subst hAd
                    have ks := str_of (c := cp) hrp (Below.refl _ _)
                    have hcat := take_flat hp
                    have happ := st_append (ls2.take i).flatten p
                    have hsum : (st (ls2.take i).flatten).size + (st p).size ≤ 9223372036854775807 := by
                      rw [st_size, st_size]
                      have h1 := congrArg List.length hcat
                      rw [List.length_append] at h1
                      have h2 : (ls2.take (i + 1)).flatten.length ≤ ls2.flatten.length := by
                        conv => rhs; rw [← List.take_append_drop (i + 1) ls2]
                        rw [List.flatten_append, List.length_append]
                        omega
                      have h3 := HL.out.total_le
                      rw [HFL2.out] at h2
                      unfold total at h3
                      omega
                    have hsum2 : ¬ 9223372036854775807 < (st (ls2.take i).flatten).size + (st p).size := by omega
                    rw [← hcat] at happ
                    clear hp hrp hcat
                    go_wp2
                    go_roundw
                    case rel => exact ⟨i + 1, by rw [HNE.out]; omega, by go_num, rfl, rfl⟩
                    case measure => simp [intOf]; omega
                  · obtain rfl : i = ls2.length := by omega
                    have hne' : ne = ls2.length := HNE.out.symm
                    subst hne'
                    have hjj2 : ¬ ((ls2.length : Int) < ls2.length) := by omega
                    have hye : (ls2.take ls2.length).flatten = x := by rw [List.take_length, HFL2.out, HX.out]
                    rw [hye]
                    clear hye
                    go_wp2_with fail
                    refine (plives_any _).mono ?_
                    rintro e w9 ⟨rfl, hb9⟩
                    go_wp2
                    go_ret
                    exact ⟨rfl, HB4.out.trans (hb9.mono hw4)⟩
          · have hd2 : decide ((j : Int) < n1) = false := by simp; omega
            have hd3 : ¬ (j : Int) < n1 := by omega
            clear hlt2
            go_wp2_with fail
            refine (drain_any g ct cr D gs 0 L f _ HPp.out HL.out HGS.out.sizes (by have := HGS.out.2.2.1; omega) hf2 HE.out).mono ?_
            rintro e w3 ⟨Ad, nd, cd, ls, at_, hls, rfl, hownd, hpl3, hat3, hk3⟩
            have hnd : ls.length = nd := hownd.len
            have hnd6 : nd ≤ 1000000 := by rw [← hnd, hls.out]; exact Nat.le_trans (pieces_len _ _ _ _) hf2
            have hflat : ls.flatten = L.flatten := by rw [hls.out, pieces_flat f gs 0 L HE.out]
            have hq3 := HPq.out.keeps hk3 (fun k ht ht' => HTT.out k ht' ht) HD2.out
            have hb3 : Below w.heap.size w w3 := HBW.out.trans (hk3.under (by omega) HT1.out)
            have HFL := Lib.hid hflat
            have HOD := Lib.hid hownd
            have HQ3 := Lib.hid hq3
            have HND := Lib.hid hnd
            have HB3 := Lib.hid hb3
            have hw3 := hb3.size
            clear hflat hownd hpl3 hk3 hnd hq3 hb3
            have st0 : ByteArray.mk #[] = st [] := rfl
            go_wp2
            go_loopw [13, 16] (fun v i wr' => StRel w3 ls v i wr') (fun _ i _ => nd - (intOf i).toNat)
            case atStart => exact ⟨0, by omega, rfl, rfl, rfl⟩
            case round =>
              obtain ⟨i, hi, rfl, rfl, rfl⟩ := hrel
              by_cases hlti : i < ls.length
              · have hin : i < nd := by rw [← HND.out]; exact hlti
                have i1 : (i : Int) < nd := by omega
                have i0 : (0 : Int) ≤ i := by omega
                obtain ⟨bd, od, p, Ap, np, cp, hAd, hbd, hp, hcp, hrp, hcp1, hcp2⟩ := (HOD.out.rd).at_ hin
                subst hAd
                have ks := str_of (c := cp) hrp (Below.refl _ _)
                have hcat := take_flat hp
                have happ := st_append (ls.take i).flatten p
                have hsum : (st (ls.take i).flatten).size + (st p).size ≤ 9223372036854775807 := by
                  rw [st_size, st_size]
                  have h1 := congrArg List.length hcat
                  rw [List.length_append] at h1
                  have h2 : (ls.take (i + 1)).flatten.length ≤ ls.flatten.length := by
                    conv => rhs; rw [← List.take_append_drop (i + 1) ls]
                    rw [List.flatten_append, List.length_append]
                    omega
                  have h3 := HL.out.total_le
                  rw [HFL.out] at h2
                  unfold total at h3
                  omega
                have hsum2 : ¬ 9223372036854775807 < (st (ls.take i).flatten).size + (st p).size := by omega
                rw [← hcat] at happ
                clear hp hrp hcat
                go_wp2
                go_roundw
                case rel => exact ⟨i + 1, by rw [HND.out]; omega, by go_num, rfl, rfl⟩
                case measure => simp [intOf]; omega
              · obtain rfl : i = ls.length := by omega
                have hnd' : nd = ls.length := HND.out.symm
                subst hnd'
                have hjj : ¬ ((ls.length : Int) < ls.length) := by omega
                obtain ⟨x, hx⟩ : ∃ x, x = (ls.take ls.length).flatten := ⟨_, rfl⟩
                have hxe : x = L.flatten := by rw [hx, List.take_length, HFL.out]
                rw [← hx]
                have HX := Lib.hid hxe
                clear hx hxe
                obtain ⟨wB, rfl⟩ : ∃ y, y = wr := ⟨_, rfl⟩
                go_wp2_with fail
                refine (drain_any g' ct' cr' D2 gs' 0 L f' _ HQ3.out HL.out HGS'.out.sizes (by have := HGS'.out.2.2.1; omega) hf2' HE'.out).mono ?_
                rintro e w4 ⟨Ae, ne, ce, ls2, at2, hls2, rfl, hownd2, hpl4, hat4, hk4⟩
                have hne : ls2.length = ne := hownd2.len
                have hne6 : ne ≤ 1000000 := by rw [← hne, hls2.out]; exact Nat.le_trans (pieces_len _ _ _ _) hf2'
                have hflat2 : ls2.flatten = L.flatten := by rw [hls2.out, pieces_flat f' gs' 0 L HE'.out]
                have hb4 : Below w.heap.size w w4 := HB3.out.trans (hk4.under hw3 HT2.out)
                have HFL2 := Lib.hid hflat2
                have HOD2 := Lib.hid hownd2
                have HNE := Lib.hid hne
                have HB4 := Lib.hid hb4
                have hw4 := hb4.size
                clear hflat2 hownd2 hpl4 hk4 hne hb4
                go_wp2
                go_loopw [14, 18] (fun v i wr' => StRel w4 ls2 v i wr') (fun _ i _ => ne - (intOf i).toNat)
                case atStart => exact ⟨0, by omega, rfl, rfl, rfl⟩
                case round =>
                  obtain ⟨i, hi, rfl, rfl, rfl⟩ := hrel
                  by_cases hlti : i < ls2.length
                  · have hin : i < ne := by rw [← HNE.out]; exact hlti
                    have i1 : (i : Int) < ne := by omega
                    have i0 : (0 : Int) ≤ i := by omega
                    obtain ⟨bd, od, p, Ap, np, cp, hAd, hbd, hp, hcp, hrp, hcp1, hcp2⟩ := (HOD2.out.rd).at_ hin
                    subst hAd
                    have ks := str_of (c := cp) hrp (Below.refl _ _)
                    have hcat := take_flat hp
                    have happ := st_append (ls2.take i).flatten p
                    have hsum : (st (ls2.take i).flatten).size + (st p).size ≤ 9223372036854775807 := by
                      rw [st_size, st_size]
                      have h1 := congrArg List.length hcat
                      rw [List.length_append] at h1
                      have h2 : (ls2.take (i + 1)).flatten.length ≤ ls2.flatten.length := by
                        conv => rhs; rw [← List.take_append_drop (i + 1) ls2]
                        rw [List.flatten_append, List.length_append]
                        omega
                      have h3 := HL.out.total_le
                      rw [HFL2.out] at h2
                      unfold total at h3
                      omega
                    have hsum2 : ¬ 9223372036854775807 < (st (ls2.take i).flatten).size + (st p).size := by omega
                    rw [← hcat] at happ
                    clear hp hrp hcat
                    go_wp2
                    go_roundw
                    case rel => exact ⟨i + 1, by rw [HNE.out]; omega, by go_num, rfl, rfl⟩
                    case measure => simp [intOf]; omega
                  · obtain rfl : i = ls2.length := by omega
                    have hne' : ne = ls2.length := HNE.out.symm
                    subst hne'
                    have hjj2 : ¬ ((ls2.length : Int) < ls2.length) := by omega
                    have hye : (ls2.take ls2.length).flatten = x := by rw [List.take_length, HFL2.out, HX.out]
                    rw [hye]
                    clear hye
                    go_wp2_with fail
                    refine (plives_any _).mono ?_
                    rintro e w9 ⟨rfl, hb9⟩
                    go_wp2
                    go_ret
                    exact ⟨rfl, HB4.out.trans (hb9.mono hw4)⟩
    · exact absurd (by rw [HGS'.out.scr]; exact HGS'.out.1) h
  · exact absurd (by rw [HGS.out.scr]; exact HGS.out.1) h
end Go.Proofs.Ytojbehblgmpbgaa
