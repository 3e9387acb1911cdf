/-
  Layer 19: the law StatReads, walked.
-/
import Derived.Test.YtanafeeekofejaaEntG
import Derived.Test.YtanafeeekofejaaLawB
namespace Go.Proofs.Ytanafeeekofejaa
open Go.RowKit
set_option linter.unusedVariables false
set_option linter.unusedSimpArgs false

theorem ents_count : ∀ (f : Nat) (l : List UInt8) (acc : List Ent), (entsAux f l acc).1.length ≤ acc.length + l.length := by
  intro f
  induction f with
  | zero => intro l acc; simp [entsAux]
  | succ f ih =>
    intro l acc
    unfold entsAux
    split
    · simp
    · split
      · simp
      · rename_i h
        split
        · simp
        · have h1 := ih (en1L l) (acc ++ [(en1S l, en1I l, en1G l)])
          have h2 := en1L_lt l (by simpa using h)
          rw [List.length_append] at h1
          simp only [List.length_cons, List.length_nil] at h1
          omega
/-- Five slices of bytes side by side. -/
def Five (W : World) (g : Nat) (w : World) : Prop := ∀ j, j < 5 → ∃ A n c l, w.cell? ⟨g, j, none⟩ = some (.slice A n c) ∧ RdB W W.heap.size A n l ∧ n ≤ 1048576 ∧ n ≤ c ∧ c ≤ maxLen

set_option maxRecDepth 100000 in
set_option maxHeartbeats 4000000 in
theorem statReads_walk (Ab : Option Addr) (nb cb : Nat) (lb : List UInt8) (A0 : Option Addr) (n0 c0 : Nat) (rs : List EntI) (at_ c_ : Int) (w : World)
    (hb : RdB w w.heap.size Ab nb lb) (hbc : nb ≤ cb) (hbm : cb ≤ maxLen) (h : RdR w w.heap.size 3 A0 n0 (rs.map eiC)) (hok : ∀ r ∈ rs, EiOk r) (h0 : -9223372036854775808 ≤ at_) (h1 : at_ ≤ 9223372036854775807) (k0 : 0 ≤ c_) (k1 : c_ ≤ 255) :
    Calls Try.prog 6 #[.slice Ab nb cb, .slice A0 n0 c0, .int .i64 at_, .int .u8 c_] w fun e w' => e = .returned (.bool true) ∧ Below w.heap.size w w' := by
  obtain ⟨x, rfl⟩ : ∃ x : UInt8, c_ = (x.toNat : Int) := ⟨UInt8.ofNat c_.toNat, by simp; omega⟩
  have H := Lib.hid h
  have HOK := Lib.hid hok
  have HBB := Lib.hid hb
  clear h hok hb k0 k1
  go_enter Try.func6, Try.ntmps6
  go_wp2_with fail
  refine (entries_any A0 n0 c0 rs _ H.out HOK.out).mono ?_
  rintro e w1 ⟨A, n, c, es, hes, rfl, hO, hb1⟩
  have HES := Lib.hid (show ∀ e ∈ es, EntOk e by
    intro e he
    rw [hes.out] at he
    obtain ⟨x, _, rfl⟩ := List.mem_map.1 he
    exact entP_ok x)
  have hlen := hO.len
  have hn8 : n ≤ 8 := by
    rw [List.length_map, hes.out, List.length_map, List.length_take] at hlen
    omega
  have HO := Lib.hid hO.rd
  have HB1 := Lib.hid hb1
  have hesl : es.length = n := by simpa using hO.len
  clear hO hb1 hes hlen
  go_wp2_with fail
  refine (refPack19_any A n c es 1000 _ HO.out HES.out (by omega) (by omega) (by omega)).mono ?_
  rintro e w2 ⟨A2, n2, c2, l2, k2, hl2, hk2, rfl, hown2, hb2⟩
  have hl2b : l2.length ≤ 336 := by
    obtain ⟨kk, _, _, _, h42, _⟩ := pack_ents 1000 es HES.out
    rw [hl2.out]
    omega
  have hn2 : n2 ≤ 336 := by rw [← hown2.len]; exact hl2b
  have HB2 := Lib.hid (Up.trans HB1.out hb2)
  have HO2 := Lib.hid hown2
  have hlo2 : w1.heap.size ≤ w2.heap.size := hb2.size
  clear hown2 hb2 hl2 hk2 HO HES
  go_wp2_with fail
  refine (refEntry_any [122] 0 0 _ (by decide) (by omega) (by omega)).mono ?_
  rintro e w3 ⟨A3, n3, c3, l3, hl3, rfl, hown3, hb3⟩
  obtain rfl : n3 = 11 := by rw [← hown3.len, hl3.out]; decide
  have H3 := Lib.hid (hown3.rd.src (P := Try.prog) (c := c3) 46 5 Try.underlying46)
  have hownA := HO2.out.up hb3
  have hlo3 : w1.heap.size ≤ w3.heap.size := Nat.le_trans hlo2 hb3.size
  have HB3 := Lib.hid (Up.trans HB2.out hb3)
  clear hown3 hb3 hl3
  go_wp2_with (at_builtin; go_must (refine wpList_appendB bytesElem rfl (.tmp 26) (.tmp 28) 46 rfl w1.heap.size A2 n2 c2 l2 rfl hownA _ rfl 11 l3 H3.out (by omega) hlo3 ?_); intro A4 n4 c4 l4 w4 hl4 hn4 hown4 hb4 hg4)
  obtain rfl : n4 = n2 + 11 := hn4.out
  have HB4 := Lib.hid (HB3.out.trans (hb4.mono HB1.out.size))
  have HR4 := Lib.hid hown4.rd
  have hcap4 := hown4.cap
  have hl4n : l4.length = n2 + 11 := hown4.len
  clear hown4 hb4 hg4 hl4 hownA
  refine (around_any at_ (n2 + 11) _ h0 h1 (by omega) (by omega)).mono ?_
  rintro e w4' ⟨k, hk, hkm, rfl, rfl⟩
  clear hk
  go_wp2_with fail
  refine (few_any A4 (n2 + 11) c4 l4 600 _ HR4.out hcap4.1 hcap4.2 (by omega)).mono ?_
  rintro e w5 ⟨Ao, no, co, lo, hlo, rfl, howno, hb5⟩
  obtain rfl : lo = l4 := by rw [hlo.out, List.take_of_length_le (by omega)]
  obtain rfl : no = n2 + 11 := by rw [← howno.len]; exact hl4n
  obtain ⟨go, hgo, hgo1, hgo2⟩ := howno.blk (by omega)
  subst hgo
  obtain ⟨⟨v0, ku⟩, kf, hst, _⟩ := Own.store howno k hkm (.int .u8 (x.toNat : Int))
  have hk0 : (0 : Int) ≤ k := by omega
  have hk1 : (k : Int) < (n2 : Int) + 11 := by omega
  have hst' : OwB (w5.setCell ⟨go, k, none⟩ (.int .u8 (x.toNat : Int))) w4.heap.size (some ⟨go, 0, none⟩) (n2 + 11) co (lo.set k x) := by unfold OwB; rw [bv_set]; exact hst
  have hb5' : Below w4.heap.size w4 (w5.setCell ⟨go, k, none⟩ (.int .u8 (x.toNat : Int))) := hb5.trans (((Keeps.refl (Is go) w5).setCell (p := ⟨go, k, none⟩) (.inl rfl) _).is hgo1 (Nat.le_of_lt hgo2))
  have hcapo := howno.cap
  have HST := Lib.hid hst'
  have HB5 := Lib.hid hb5'
  clear hst hst' hb5 hb5' howno hlo
  go_upto_region 6 with fail
  generalize w5.setCell ⟨go, k, none⟩ (.int .u8 (x.toNat : Int)) = w6 at HST HB5
  have HR6 := Lib.hid (HR4.out.up HB5.out)
  clear ku kf
  go_wp2_with fail
  refine (few_any A4 (n2 + 11) c4 lo 600 _ HR6.out hcap4.1 hcap4.2 (by omega)).mono ?_
  rintro e w7 ⟨Am, nm, cm, lm, hlm, rfl, hownm, hb7⟩
  obtain rfl : lm = lo := by rw [hlm.out, List.take_of_length_le (by omega)]
  obtain rfl : nm = n2 + 11 := by rw [← hownm.len]; exact hl4n
  have Hsrc := Lib.hid (Src.oneByte (P := Try.prog) w7 46 5 Try.underlying46 x 5)
  have hlo7 : w6.heap.size ≤ (w7.alloc (.cells #[.int .u8 (x.toNat : Int)] 5)).heap.size := by have := hb7.size; simp; omega
  have HB7 := Lib.hid hb7
  have HM := Lib.hid hownm
  clear hb7 hownm hlm
  go_wp2_with (at_builtin; go_must (refine wpList_appendB bytesElem rfl (.tmp 41) (.tmp 43) 46 rfl w6.heap.size Am (n2 + 11) cm lm rfl (HM.out.alloc _) _ rfl 1 [x] Hsrc.out (by omega) hlo7 ?_); intro A8 n8 c8 l8 w8 hl8 hn8 hown8 hb8 hg8)
  obtain rfl : n8 = n2 + 11 + 1 := hn8.out
  have HB8 := Lib.hid (Up.trans (Up.trans HB4.out HB5.out) ((HB7.out.alloc HB7.out.size (.cells #[.int .u8 (x.toNat : Int)] 5)).trans hb8))
  have hb68 : Below w6.heap.size w6 w8 := (HB7.out.alloc HB7.out.size (.cells #[.int .u8 (x.toNat : Int)] 5)).trans hb8
  have HRa := Lib.hid (HR6.out.up hb68)
  have HRb := Lib.hid ((OwB.rd HST.out).up hb68)
  have HRc := Lib.hid (OwB.rd hown8)
  have hcap8 := hown8.cap
  have HBBw := Lib.hid (HBB.out.up HB8.out)
  have hkc : k ≤ c4 := by omega
  have hkc2 : (k : Int) ≤ c4 := by omega
  clear hb8 hg8 hown8 hb68 hl8
  refine wp_region_tq NoG (.t 0 (.t 2 (.t 3 (.t 4 (.t 5 (.t 6 (.t 7 (.s 1 (.s 8 (.t 9 .nil)))))))))) (by kernel_rfl) (by kernel_rfl) ?_
  repeat (refine tq_take (by simp only [List.getElem?_toArray, List.getElem?_cons_succ, List.getElem?_cons_zero]; exact rfl) ?_; go_big_quiet_step (fail); refine wpQuiet_nil ?_)
  refine tq_solo (by simp only [List.getElem?_toArray, List.getElem?_cons_succ, List.getElem?_cons_zero]; exact rfl) ?_
  go_wp2_with fail
  refine (few_any Ab nb cb lb 60 w8.drew (show RdB w8.drew w8.drew.heap.size Ab nb lb from HBBw.out) hbc hbm (by omega)).mono ?_
  rintro e w9 ⟨Ae, ne, ce, le_, hle, rfl, howne, hb9⟩
  have hne : ne ≤ 60 := by rw [← howne.len, hle.out, List.length_take]; omega
  have hcape := howne.cap
  have HR9 := Lib.hid (OwB.rd howne)
  have HB9 := Lib.hid hb9
  clear howne hb9 hle
  go_wp2
  refine Solo.up HB9.out ?_
  refine tq_solo (by simp only [List.getElem?_toArray, List.getElem?_cons_succ, List.getElem?_cons_zero]; exact rfl) ?_
  go_wp2
  refine Solo.up ((Below.refl _ _).alloc (Nat.le_refl _) _) ?_
  repeat (refine tq_take (by simp only [List.getElem?_toArray, List.getElem?_cons_succ, List.getElem?_cons_zero]; exact rfl) ?_; go_big_quiet_step (fail); refine wpQuiet_nil ?_)
  refine tq_end ?_
  obtain ⟨g9, hg9⟩ : ∃ g, g = w9.heap.size := ⟨_, rfl⟩
  obtain ⟨W, hW⟩ : ∃ W, W = w9.alloc (.cells #[.slice Ae ne ce, .slice A4 (n2 + 11) c4, .slice (some ⟨go, 0, none⟩) (n2 + 11) co, .slice A4 k c4, .slice A8 (n2 + 11 + 1) c8] 46) := ⟨_, rfl⟩
  have hbW : Below w9.heap.size w9 W := by rw [hW]; exact (Below.refl _ _).alloc (Nat.le_refl _) _
  have HBW := Lib.hid (Up.trans (Up.trans HB8.out (below_of_drew HB9.out)) hbW)
  have hw89 := below_of_drew HB9.out
  have HF := Lib.hid (show Five W g9 W by
    have hh : W.heap[g9]? = some (.cells #[.slice Ae ne ce, .slice A4 (n2 + 11) c4, .slice (some ⟨go, 0, none⟩) (n2 + 11) co, .slice A4 k c4, .slice A8 (n2 + 11 + 1) c8] 46 (0, 0)) := by rw [hW, hg9]; exact heap_alloc_new w9 _
    intro j hj
    simp only [World.cell?, hh]
    match j, hj with
    | 0, _ => exact ⟨Ae, ne, ce, le_, rfl, HR9.out.up hbW, by omega, hcape.1, hcape.2⟩
    | 1, _ => exact ⟨A4, n2 + 11, c4, _, rfl, (HRa.out.up hw89).up hbW, by omega, hcap4.1, hcap4.2⟩
    | 2, _ => exact ⟨some ⟨go, 0, none⟩, n2 + 11, co, _, rfl, (HRb.out.up hw89).up hbW, by omega, hcapo.1, hcapo.2⟩
    | 3, _ => exact ⟨A4, k, c4, _, rfl, ((HRa.out.up hw89).up hbW).first (by omega), by omega, hkc, hcap4.2⟩
    | 4, _ => exact ⟨A8, n2 + 11 + 1, c8, _, rfl, (HRc.out.up hw89).up hbW, by omega, hcap8.1, hcap8.2⟩)
  have HG := Lib.hid hg9
  clear hbW hw89 hg9
  go_wp2
  rw [← hW, ← HG.out]
  clear hW
  go_loopw [15] (fun i wr => RoundRel 5 W i wr) (fun i _ => 5 - (intOf i).toNat)
  case atStart => exact ⟨0, by omega, rfl, Below.refl _ _⟩
  case round =>
    obtain ⟨j, hj, rfl, hbw⟩ := hrel
    have Hbw := Lib.hid hbw
    clear hbw
    by_cases hlt : j < 5
    · obtain ⟨Aj, nj, cj, lj, hcell, hrd, hj1, hj2, hj3⟩ := HF.out j hlt
      have kcr : wr.cell? ⟨g9, j, none⟩ = some (.slice Aj nj cj) := cell_later Hbw.out hcell
      have hj0 : (0 : Int) ≤ j := by omega
      have hj4 : (j : Int) < 5 := by omega
      have HRD := Lib.hid (hrd.up Hbw.out)
      clear hcell hrd
      go_wp2_with fail
      refine (statEntries_any Aj nj cj lj _ HRD.out hj1).mono ?_
      rintro e wa ⟨Ap, np, cp, ep, Ep, hep, hEp, rfl, hop, hba⟩
      have kca := cell_later hba kcr
      have HRDa := Lib.hid (HRD.out.up hba)
      have HOP := Lib.hid hop
      have HBA := Lib.hid (Up.trans Hbw.out hba)
      clear kcr hop hba
      go_wp2_with fail
      refine (refEntries_any Aj nj cj lj _ HRDa.out hj1 hj2 hj3).mono ?_
      rintro e wb ⟨Aq, nq, cq, eq_, Eq_, heq, hEq, rfl, hoq, hbb⟩
      obtain rfl : eq_ = ep := by rw [heq.out, hep.out]
      obtain rfl : Eq_ = Ep := by rw [hEq.out, hEp.out]
      obtain rfl : nq = np := by rw [← hoq.len, ← HOP.out.len]
      have hnp : nq ≤ 1048576 := by
        have a1 := HOP.out.len
        have a2 := ents_count lj.length lj []
        have a3 := HRD.out.len
        rw [List.length_map] at a1
        rw [← hep.out, List.length_nil] at a2
        omega
      have HOP2 := Lib.hid (HOP.out.up hbb)
      have HOQ := Lib.hid hoq
      have HBB2 := Lib.hid (Up.trans HBA.out hbb)
      clear kca hoq hbb
      go_wp2_with fail
      refine (same11_eq Ap Aq _ cp cq _ _ HOP2.out.rd HOQ.out.rd hnp).mono ?_
      rintro e wc ⟨rfl, hbc2⟩
      have HBC := Lib.hid (Up.trans HBB2.out hbc2)
      clear hbc2
      go_wp2
      go_roundw
      case rel => exact ⟨j + 1, by omega, by go_num, HBC.out⟩
      case measure => simp [intOf]; omega
    · have hj4 : ¬ (j : Int) < 5 := by omega
      go_wp2_with fail
      refine (lives_any _).mono ?_
      rintro e wz ⟨rfl, hbz⟩
      go_wp2
      go_ret
      exact ⟨rfl, Up.trans HBW.out (Up.trans Hbw.out hbz)⟩
end Go.Proofs.Ytanafeeekofejaa
