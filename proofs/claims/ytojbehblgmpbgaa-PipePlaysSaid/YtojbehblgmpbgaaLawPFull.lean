/-
  Layer 5: the law PipeFull.
-/
import Derived.Test.YtojbehblgmpbgaaLawPNews
namespace Go.Proofs.Ytojbehblgmpbgaa
open Go.RowKit Go.Conc
set_option linter.unusedVariables false
set_option linter.unusedSimpArgs false

/-- The loop's relation. -/
def FuRel (w0 : World) (g ct cr m k : Nat) (i : Value) (wr : World) : Prop :=
  ∃ (j : Nat) (D : Nat → Prop) (L : List (List UInt8)), j ≤ k ∧ i = .int .i64 j ∧ PL wr g ct cr D [(m : Int)] 0 L ∧ GoodL L ∧ L.length = min j 64 ∧ Hid (1 ≤ j → ∃ T, L = [0] :: T) ∧ Keeps (Tri g ct cr) w0 wr

theorem total_ge (L : List (List UInt8)) (h : GoodL L) : L.length ≤ total L := by
  have : ∀ L : List (List UInt8), (∀ l ∈ L, l ≠ []) → L.length ≤ total L := by
    intro L
    induction L with
    | nil => simp [total]
    | cons l L ih =>
      intro h
      have h1 := ih (fun x hx => h x (by simp [hx]))
      have h2 := List.length_pos_iff.2 (h l (by simp))
      rw [total_cons, List.length_cons]
      omega
  exact this L fun l hl => (h.2 l hl).1

set_option maxRecDepth 100000 in
set_option maxHeartbeats 4000000 in
theorem pipeFull_walk (n0 size : Int) (w : World) (b0 : -9223372036854775808 ≤ n0) (t0 : n0 ≤ 9223372036854775807) (b1 : -9223372036854775808 ≤ size) (t1 : size ≤ 9223372036854775807) :
    Calls Try.prog 4 #[.int .i64 n0, .int .i64 size] w fun e w' => e = .returned (.bool true) ∧ Below w.heap.size w w' := by
  go_enter Try.func4, Try.ntmps4
  go_wp2_with fail
  refine (around_any size 4 _ b1 t1 (by omega) (by omega)).mono ?_
  rintro e w1 ⟨k1, hk1, hk14, rfl, rfl⟩
  obtain ⟨m, hm⟩ : ∃ m, m = 1 + k1 := ⟨_, rfl⟩
  have hmI : (1 : Int) + k1 = m := by omega
  have hrdv : RdV (w.alloc (.cells #[.int .i64 (m : Int)] 3)) (w.alloc (.cells #[.int .i64 (m : Int)] 3)).heap.size (some ⟨w.heap.size, 0, none⟩) 1 (iv [(m : Int)]) := (RdV.new w (iv [(m : Int)]) #[.int .i64 (m : Int)] rfl 3 (0, 0)).more (by simp)
  have hb0 : Below w.heap.size w (w.alloc (.cells #[.int .i64 (m : Int)] 3)) := (Below.refl _ _).alloc (Nat.le_refl _) _
  have HK1 := Lib.hid hk1
  have HM := Lib.hid hm
  clear hk1 hm
  go_wp2_with fail
  refine (newp_any _ 1 1 [(m : Int)] _ hrdv (by omega)).mono ?_
  have hscr : scr [(m : Int)] = [(m : Int)] := by simp [scr]
  have hmay : MayS [(m : Int)] := by have := HM.out; exact ⟨by simp, m, by simp, by omega⟩
  rintro e w1 (⟨_, g, ct, cr, D, rfl, hpl, ht, hd, hb1⟩ | ⟨h, _⟩)
  · rw [hscr] at hpl
    have HPL := Lib.hid hpl
    have HT := Lib.hid ht
    have HB1 := Lib.hid (hb0.trans (hb1.mono hb0.size))
    have hT : ∀ k, k < w.heap.size → ¬ Tri g ct cr k := fun k hk ht' => by have := ht k ht'; have := hb0.size; omega
    have HTT := Lib.hid hT
    have hsz : Sizes [(m : Int)] := by have := HM.out; exact ⟨by simp, by simp; omega⟩
    have HSZ := Lib.hid hsz
    clear hpl ht hd hb0 hb1 hrdv hT hscr hmay hsz
    go_wp2_with fail
    refine (around_any n0 11 _ b0 t0 (by omega) (by omega)).mono ?_
    rintro e w2 ⟨k2, _, hk2, rfl, rfl⟩
    obtain ⟨k, hk⟩ : ∃ k, k = 60 + k2 := ⟨_, rfl⟩
    have hkI : (60 : Int) + k2 = k := by omega
    have hk60 : 60 ≤ k := by omega
    have hk70 : k ≤ 70 := by omega
    clear hk
    go_wp2
    go_loopw [8] (fun i wr => FuRel w g ct cr m k i wr) (fun i _ => k - (intOf i).toNat)
    case atStart => exact ⟨0, D, [], by omega, rfl, HPL.out, GoodL.nil, by simp, Lib.hid (fun h => by omega), Keeps.of_below HB1.out⟩
    case round =>
      obtain ⟨j, D, L, hj, rfl, hpl, hL, hll, hone, hkp⟩ := hrel
      have HPLr := Lib.hid hpl
      have HL := Lib.hid hL
      have HKP := Lib.hid hkp
      clear hpl hL hkp
      by_cases hlt : j < k
      · have hjk : (j : Int) < k := by omega
        obtain ⟨q, hq⟩ : ∃ q, q = 1 + j % 3 := ⟨_, rfl⟩
        have hqI : (1 : Int) + (j : Int) % 3 = q := by omega
        have hqT : (1 : Int) + Int.tmod (j : Int) 3 = q := by rw [Int.tmod_eq_emod_of_nonneg (by omega)]; exact hqI
        have hq3 : q ≤ 3 := by omega
        have hq1 : 1 ≤ q := by omega
        have HQ := Lib.hid hq
        clear hq
        go_wp2_with (refine wpList_makeB bytesElem rfl (.tmp 37) (.tmp 37) rfl .i64 .i64 q q rfl rfl (Nat.le_refl _) (by omega) wr.heap.size (Nat.le_refl _) ?_; intro gm lm wm hlm hownm hbm; simp only [Act.put, List.setIfInBounds_toArray, List.set_cons_succ, List.set_cons_zero])
        refine (send_any g ct cr D [(m : Int)] 0 L _ q q lm _ (HPLr.out.up hbm) HL.out hownm.rd (by omega)).mono ?_
        have hlm0 : lm ≠ [] := by intro h; have := hownm.len; rw [h] at this; simp at this; omega
        rintro e w3 (⟨h, _⟩ | ⟨_, hfull, rfl, rfl⟩ | ⟨_, hroom, rfl, D', hpl3, hD1, hD2, hk3⟩)
        · exact absurd h hlm0
        · have hj64 : ¬ (j : Int) < 64 := by omega
          have hd64 : decide ((j : Int) < 64) = false := by simpa using hj64
          have HPLm := Lib.hid (HPLr.out.up hbm)
          have HKm := Lib.hid (HKP.out.trans (Keeps.of_below (G := Tri g ct cr) hbm))
          clear hlm0 hbm hownm hlm
          go_wp2_with fail
          refine (send_any g ct cr D [(m : Int)] 0 L none 0 0 [] _ HPLm.out HL.out RdB.nil (by omega)).mono ?_
          rintro e w4 (⟨_, rfl, rfl⟩ | ⟨h, _⟩ | ⟨h, _⟩)
          · go_wp2
            go_roundw
            case rel => exact ⟨j + 1, D, L, by omega, by go_num, HPLm.out, HL.out, by omega, Lib.hid (fun _ => hone.out (by omega)), HKm.out⟩
            case measure => simp [intOf]; omega
          · exact absurd rfl h
          · exact absurd rfl h
        · have hj64 : (j : Int) < 64 := by omega
          have hd64 : decide ((j : Int) < 64) = true := by simpa using hj64
          have HPL3 := Lib.hid hpl3
          have HK3 := Lib.hid ((HKP.out.trans (Keeps.of_below (G := Tri g ct cr) hbm)).trans hk3)
          have hgl : GoodL (L ++ [lm]) := HL.out.snoc hroom hlm0 (by rw [hownm.len]; omega)
          have HGL := Lib.hid hgl
          have hone' : 1 ≤ j + 1 → ∃ T, L ++ [lm] = [0] :: T := by
            intro _
            rcases Nat.eq_zero_or_pos j with h0 | h0
            · have hL0 : L = [] := List.eq_nil_of_length_eq_zero (by omega)
              refine ⟨[], ?_⟩
              have := HQ.out
              rw [hL0, hlm.out, show q = 1 by omega]
              rfl
            · obtain ⟨T, hT⟩ := hone.out h0
              exact ⟨T ++ [lm], by rw [hT]; rfl⟩
          have HONE := Lib.hid hone'
          clear hlm0 hbm hownm hlm hpl3 hk3 hD1 hD2 hgl hone'
          go_wp2_with fail
          refine (send_any g ct cr D' [(m : Int)] 0 (L ++ [lm]) none 0 0 [] _ HPL3.out HGL.out RdB.nil (by omega)).mono ?_
          rintro e w4 (⟨_, rfl, rfl⟩ | ⟨h, _⟩ | ⟨h, _⟩)
          · go_wp2
            go_roundw
            case rel => exact ⟨j + 1, D', L ++ [lm], by omega, by go_num, HPL3.out, HGL.out, by simp; omega, HONE, HK3.out⟩
            case measure => simp [intOf]; omega
          · exact absurd rfl h
          · exact absurd rfl h
      · obtain rfl : j = k := by omega
        obtain ⟨T, rfl⟩ := hone.out (by omega)
        have hjj : ¬ (j : Int) < j := by omega
        obtain ⟨mm, hmm⟩ : ∃ mm, mm = min j 64 := ⟨_, rfl⟩
        have hmm1 : (if (64 : Int) < j then (64 : Int) else j) = mm := by rw [hmm]; split <;> omega
        rw [← hmm] at hll
        have htot := total_ge _ HL.out
        have htk : takeN [(m : Int)] 0 ([0] :: T) = m := by unfold takeN; simp; omega
        have hm1 : 1 ≤ m := by omega
        have hm4 : m ≤ 4 := by omega
        have hnx : (nextL [(m : Int)] 0 ([0] :: T)).length < mm := by
          unfold nextL
          rw [htk, show m = (m - 1) + 1 by omega, eat_cons]
          have hgT : GoodL T := ⟨by have := HL.out.1; simp at this; omega, fun l hl => HL.out.2 l (by simp [hl])⟩
          have := (eat_good (m - 1) T hgT).2
          simp [absL]
          simp at hll
          omega
        have hgn : GoodL (nextL [(m : Int)] 0 ([0] :: T)) := nextL_good HL.out
        have hpc : (pieceOf [(m : Int)] 0 ([0] :: T)).length = m := by
          unfold pieceOf
          rw [List.length_take, htk]
          unfold total at htot
          omega
        have hat : nextAt [(m : Int)] 0 = 0 := by simp [nextAt]
        have HTK := Lib.hid htk
        have HNX := Lib.hid hnx
        have HGN := Lib.hid hgn
        have HPC := Lib.hid hpc
        have HAT := Lib.hid hat
        have HTOT := Lib.hid htot
        clear htk hnx hgn hpc hat htot
        go_wp2_with fail
        refine (texts_any _ g ct cr D _ 0 _ HPLr.out).mono ?_
        rintro e w3 ⟨rfl, rfl⟩
        rw [hll]
        go_wp2_with fail
        refine (next_both g ct cr D [(m : Int)] 0 ([0] :: T) _ HPLr.out HL.out HSZ.out (by simp)).mono ?_
        rintro e w3 (⟨h, _⟩ | ⟨_, A', n', c', out, hout, rfl, hown, hpl3, hk3⟩)
        · cases h
        · have hn'm : n' = m := by rw [← hown.len, hout.out]; exact HPC.out
          rw [HAT.out] at hpl3
          subst hn'm
          have HPL3 := Lib.hid hpl3
          have HK3 := Lib.hid (HKP.out.trans hk3)
          clear hown hpl3 hk3 hout
          go_wp2_with fail
          refine (around_any size 4 _ b1 t1 (by omega) (by omega)).mono ?_
          rintro e w4 ⟨k1', hk1', _, rfl, rfl⟩
          obtain rfl : k1' = k1 := by have h1 := hk1'.out; have h2 := HK1.out.out; omega
          clear hk1'
          have hdd : ((n' : Int) == n') = true := by simp
          go_wp2_with fail
          refine (texts_any _ g ct cr D _ 0 _ HPL3.out).mono ?_
          rintro e w4 ⟨rfl, rfl⟩
          obtain ⟨x, hx⟩ : ∃ x, x = (nextL [(n' : Int)] 0 ([0] :: T)).length := ⟨_, rfl⟩
          have hxm : (x : Int) < mm := by have := HNX.out; omega
          rw [← hx]
          have hxd : decide ((x : Int) < mm) = true := by simpa using hxm
          have hroom : x < 64 := by omega
          have hr1 : RdB (w3.alloc (.cells #[.int .u8 1] 5)) (w3.alloc (.cells #[.int .u8 1] 5)).heap.size (some ⟨w3.heap.size, 0, none⟩) 1 [1] := (RdB.new w3 [1] _ rfl _ _).more (by simp)
          have hb4 : Below w3.heap.size w3 (w3.alloc (.cells #[.int .u8 1] 5)) := (Below.refl _ _).alloc (Nat.le_refl _) _
          have HR1 := Lib.hid hr1
          have HB4 := Lib.hid hb4
          have HX := Lib.hid hx
          clear hr1 hb4 hx
          go_wp2_with fail
          refine (send_any g ct cr D [(n' : Int)] 0 _ _ 1 1 [1] _ (HPL3.out.up HB4.out) HGN.out HR1.out (by omega)).mono ?_
          rintro e w5 (⟨h, _⟩ | ⟨_, h, _⟩ | ⟨_, _, rfl, D', hpl5, hD1, hD2, hk5⟩)
          · simp at h
          · have := HX.out; omega
          · have HK5 := Lib.hid ((HK3.out.trans (Keeps.of_below (G := Tri g ct cr) HB4.out)).trans hk5)
            clear hpl5 hk5 hD1 hD2
            go_wp2_with fail
            refine (plives_any _).mono ?_
            rintro e w6 ⟨rfl, hb6⟩
            go_wp2
            go_ret
            exact ⟨rfl, (HK5.out.trans (Keeps.of_below (G := Tri g ct cr) hb6)).under (Nat.le_refl _) HTT.out⟩
  · exact absurd (by simpa [scr] using hmay) h
end Go.Proofs.Ytojbehblgmpbgaa
