/-
  Layer 2: the law LittleSplits, walked. (UNDER WAY)
-/
import Derived.Test.YthfepdgamhidgaaLittleY
import Derived.Test.YthfepdgamhidgaaLittleC
namespace Go.Proofs.Ythfepdgamhidgaa
open Go.RowKit
set_option linter.unusedVariables false

theorem splitF_ms_le (msize : Int) : ∀ (f : Nat) (b : List UInt8), (splitF msize f b).ms.length ≤ f := by
  intro f
  induction f with
  | zero => intro b; simp [splitF]
  | succ f ih =>
    intro b
    simp only [splitF]
    split
    · simp
    split
    · simp
    split
    · simp
    split
    · simp
    · simp only [List.length_cons]
      have := ih (b.drop (num (b.take 4)))
      omega
theorem split_ms_le (msize : Int) (b : List UInt8) : (splitL msize b).ms.length ≤ b.length := splitF_ms_le msize _ b

def PkRel (w : World) (v i : Value) (wr : World) : Prop :=
  ∃ (j n' c' : Nat) (A' : Option Addr) (l' : List UInt8), j ≤ 4 ∧ i = .int .i64 j ∧ v = .slice A' n' c' ∧ l'.length ≤ 19 * j ∧ OwB wr w.heap.size A' n' c' l' ∧ Below w.heap.size w wr

/-- The blocks from b on. -/
def Ge (b : Nat) : Nat → Prop := fun k => b ≤ k
theorem rows3 (w : World) {A A' A'' : Option Addr} {n n' n'' c c' c'' : Nat} {l l' l'' : List UInt8} (h : RdB w w.heap.size A n l) (h' : RdB w w.heap.size A' n' l') (h'' : RdB w w.heap.size A'' n'' l'') (k : n ≤ c ∧ c ≤ maxLen) (k' : n' ≤ c' ∧ c' ≤ maxLen) (k'' : n'' ≤ c'' ∧ c'' ≤ maxLen) (t : TypeId) :
    RdBB (w.alloc (.cells #[.slice A n c, .slice A' n' c', .slice A'' n'' c''] t)) (w.heap.size + 1) (some ⟨w.heap.size, 0, none⟩) 3 [l, l', l''] := by
  have hB := Blk.new w t [.slice A n c, .slice A' n' c', .slice A'' n'' c'']
  refine ⟨rfl, fun _ => ⟨w.heap.size, 0, rfl, by omega, fun i x hx => ?_⟩⟩
  rw [Nat.zero_add]
  match i, hx with
  | 0, hx => simp at hx; subst hx; exact ⟨A, n, c, hB.cell 0 _ rfl, (h.alloc (Nat.le_refl _) _).more (by omega), k⟩
  | 1, hx => simp at hx; subst hx; exact ⟨A', n', c', hB.cell 1 _ rfl, (h'.alloc (Nat.le_refl _) _).more (by omega), k'⟩
  | 2, hx => simp at hx; subst hx; exact ⟨A'', n'', c'', hB.cell 2 _ rfl, (h''.alloc (Nat.le_refl _) _).more (by omega), k''⟩
theorem cell3I (w : World) (a b c : Int) (t : TypeId) (P : Int → Prop) (ha : P a) (hb : P b) (hc : P c) :
    ∀ j, j < 3 → ∃ o, P o ∧ (w.alloc (.cells #[.int .i64 a, .int .i64 b, .int .i64 c] t)).cell? ⟨w.heap.size, j, none⟩ = some (.int .i64 o) := by
  intro j hj
  have hB := Blk.new w t [.int .i64 a, .int .i64 b, .int .i64 c]
  match j, hj with
  | 0, _ => exact ⟨a, ha, hB.cell 0 _ rfl⟩
  | 1, _ => exact ⟨b, hb, hB.cell 1 _ rfl⟩
  | 2, _ => exact ⟨c, hc, hB.cell 2 _ rfl⟩

set_option maxRecDepth 100000 in
set_option maxHeartbeats 8000000 in
theorem littleSplits_walk (A0 : Option Addr) (n0 c0 : Nat) (l0 : List UInt8) (A1 : Option Addr) (n1 c1 : Nat) (ls : List (List UInt8)) (msize : Int) (w : World)
    (h0 : RdB w w.heap.size A0 n0 l0) (hc0 : n0 ≤ c0) (hm0 : c0 ≤ maxLen) (h1 : RdBB w w.heap.size A1 n1 ls) (hn1 : n1 ≤ 9223372036854775807) (b0 : -9223372036854775808 ≤ msize) (t0 : msize ≤ 9223372036854775807) :
    Calls Try.prog 4 #[.slice A0 n0 c0, .slice A1 n1 c1, .int .i64 msize] w fun e w' => e = .returned (.bool true) ∧ Below w.heap.size w w' := by
  have H0 := Lib.hid h0
  have H1 := Lib.hid h1
  clear h0 h1
  go_enter Try.func4, Try.ntmps4
  go_wp2_with fail
  refine (few_any A0 n0 c0 l0 60 _ H0.out hc0 hm0 (by omega)).mono ?_
  rintro e w1 ⟨A, n, c, f0, hf0, rfl, hown, hb1⟩
  have hn60 : n ≤ 60 := by rw [← hown.len, hf0.out, List.length_take]; omega
  have hcapf := hown.cap
  go_wp2
  go_loopw [8, 9] (fun v i wr => PkRel w1 v i wr) (fun _ i _ => 4 - (intOf i).toNat)
  case atStart => exact ⟨0, 0, 0, none, [], by omega, rfl, rfl, by simp, OwB.nil _ _, Below.refl _ _⟩
  case round =>
    obtain ⟨j, n', c', A', l', hj, rfl, rfl, hl', hown', hbw⟩ := hrel
    have hln : n' ≤ 76 := by rw [← hown'.len]; omega
    have hb0w := Up.trans hb1 hbw
    have hsw := hbw.size
    by_cases hlt : j < n1 ∧ j < 4
    · obtain ⟨hlt1, hlt4⟩ := hlt
      obtain ⟨b, off, li, Ai, ni, ci, hA, hbB, hli, hcell, hri, hic, him⟩ := H1.out.at_ hlt1
      subst hA
      have kc := cell_later hb0w hcell
      have hj4 : (j : Int) < 4 := by omega
      clear hcell
      go_wp2_with fail
      refine (few_any Ai ni ci li 12 _ (hri.up hb0w) hic him (by omega)).mono ?_
      rintro e w2 ⟨Aq, nq, cq, q, hq, rfl, hownq, hbq⟩
      have hnq : nq ≤ 12 := by rw [← hownq.len, hq.out, List.length_take]; omega
      have hlq : q.length ≤ 12 := by rw [hownq.len]; exact hnq
      go_wp2_with fail
      refine (refPack_any (100 + j) j Aq nq cq q _ hownq.rd (by omega) (by omega) (by omega)).mono ?_
      rintro e w3 ⟨Ap, np, cp, pl, hpl, rfl, hownp, hbp⟩
      have hlp : pl.length ≤ 19 := by rw [hpl.out]; simp [packL, le_length]; omega
      have hnp : np ≤ 19 := by rw [← hownp.len]; exact hlp
      have hbqp := Up.trans hbq hbp
      have hown3 := hown'.up hbqp
      have HS3 := Lib.hid (Nat.le_trans hsw hbqp.size)
      have H3 := Lib.hid (hownp.rd.src (P := Try.prog) (c := cp) 22 5 Try.underlying22)
      clear kc
      go_wp2_with (at_builtin; go_must (refine wpList_appendB bytesElem rfl (.tmp 30) (.tmp 39) 22 rfl w1.heap.size A' n' c' l' rfl hown3 _ rfl np pl H3.out (by omega) HS3.out ?_); intro A4 n4 c4 l4 w4 hl4 hn4 hown4 hb4 hg4)
      have hb04 := (hbw.trans (hbqp.mono hsw)).trans hb4
      go_roundw
      case rel => exact ⟨j + 1, n4, c4, A4, l4, by omega, by go_num, rfl, by rw [hl4.out, List.length_append]; omega, hown4, hb04⟩
      case measure => simp [intOf]; omega
    · have hstop : (decide ((j : Int) < n1) = false ∧ decide (j < n1) = false) ∨ (j < n1 ∧ decide ((j : Int) < 4) = false ∧ decide (j < 4) = false) := by
        rcases Nat.lt_or_ge j n1 with h | h
        · right; exact ⟨h, by simp; omega, by simp; omega⟩
        · left; exact ⟨by simp; omega, by simp; omega⟩
      have hcapo := hown'.cap
      clear hlt
      rcases hstop with ⟨s1, s2⟩ | ⟨s1, s2, s3⟩
      all_goals
        go_wp2_with fail
        refine (few_any A' n' c' l' 200 _ hown'.rd hcapo.1 hcapo.2 (by omega)).mono ?_
        rintro e w5 ⟨Ag, ng, cg, lg, hlg, rfl, howng, hbg⟩
        have hlg76 : lg.length ≤ 76 := by rw [hlg.out, List.length_take]; omega
        have hng : ng ≤ 76 := by rw [← howng.len]; exact hlg76
        have hrf := hown.rd.up (Up.trans hbw hbg)
        have hro := hown'.rd.up hbg
        have HSg := Lib.hid hbg.size
        have Hf := Lib.hid (hrf.src (P := Try.prog) (c := c) 22 5 Try.underlying22)
        have Hrf := Lib.hid hrf
        have Hro := Lib.hid hro
        clear hrf hro
        go_wp2_with (at_builtin; go_must (refine wpList_appendB bytesElem rfl (.tmp 44) (.tmp 45) 22 rfl wr.heap.size Ag ng cg lg rfl howng _ rfl n f0 Hf.out (by omega) HSg.out ?_); intro A6 n6 c6 l6 w6 hl6 hn6 hown6 hb6 hg6)
        have hb06 : Below wr.heap.size wr w6 := hbg.trans hb6
        have hl6b : l6.length ≤ 136 := by rw [hl6.out, List.length_append, hown.len]; omega
        have hrow := rows3 w6 (c := c) (c' := c') (c'' := c6) ((hown.rd.up hbw).up hb06) (hown'.rd.up hb06) hown6.rd hcapf hcapo hown6.cap 22
        have hbA : Below w6.heap.size w6 (w6.alloc (.cells #[.slice A n c, .slice A' n' c', .slice A6 n6 c6] 22)) := (Below.refl _ _).alloc (Nat.le_refl _) _
        have hsA : (w6.alloc (.cells #[.slice A n c, .slice A' n' c', .slice A6 n6 c6] 22)).heap.size = w6.heap.size + 1 := by simp
        refine (around_any msize 31 _ b0 t0 (by omega) (by omega)).mono ?_
        rintro e w' ⟨kk, hkk, hk31, rfl, rfl⟩
        have hints := cell3I (w6.alloc (.cells #[.slice A n c, .slice A' n' c', .slice A6 n6 c6] 22)) msize kk 1024 3 (fun o => -9223372036854775808 ≤ o ∧ o ≤ 9223372036854775807) ⟨b0, t0⟩ (by omega) (by omega)
        have hbB : Below (w6.alloc (.cells #[.slice A n c, .slice A' n' c', .slice A6 n6 c6] 22)).heap.size (w6.alloc (.cells #[.slice A n c, .slice A' n' c', .slice A6 n6 c6] 22)) ((w6.alloc (.cells #[.slice A n c, .slice A' n' c', .slice A6 n6 c6] 22)).alloc (.cells #[.int .i64 msize, .int .i64 kk, .int .i64 1024] 3)) := (Below.refl _ _).alloc (Nat.le_refl _) _
        have hrow2 : RdBB ((w6.alloc (.cells #[.slice A n c, .slice A' n' c', .slice A6 n6 c6] 22)).alloc (.cells #[.int .i64 msize, .int .i64 kk, .int .i64 1024] 3)) ((w6.alloc (.cells #[.slice A n c, .slice A' n' c', .slice A6 n6 c6] 22)).alloc (.cells #[.int .i64 msize, .int .i64 kk, .int .i64 1024] 3)).heap.size (some ⟨w6.heap.size, 0, none⟩) 3 [f0, l', l6] := (hrow.below (hbB.mono (by simp))).more (by simp)
        have hall : Below w.heap.size w ((w6.alloc (.cells #[.slice A n c, .slice A' n' c', .slice A6 n6 c6] 22)).alloc (.cells #[.int .i64 msize, .int .i64 kk, .int .i64 1024] 3)) := Up.trans hb0w (Up.trans hb06 (Up.trans hbA hbB))
        rw [hsA] at hints
        have hls : ∀ x ∈ [f0, l', l6], x.length ≤ 136 := by
          intro x hx
          simp at hx
          rcases hx with rfl | rfl | rfl
          · rw [hown.len]; omega
          · omega
          · exact hl6b
        go_wp2
        generalize (w6.alloc (.cells #[.slice A n c, .slice A' n' c', .slice A6 n6 c6] 22)).alloc (.cells #[.int .i64 msize, .int .i64 kk, .int .i64 1024] 3) = wz at hrow2 hall hints
        have HROW := Lib.hid hrow2
        have HINT := Lib.hid hints
        have HLS := Lib.hid hls
        clear hrow hrow2 hints hls hbA hbB hsA Hrf Hro Hf
        go_loopw [12] (fun i wr => RoundRel 3 wz i wr) (fun i _ => 3 - (intOf i).toNat)
        case atStart => exact ⟨0, by omega, rfl, Below.refl _ _⟩
        case round =>
          obtain ⟨i, hi, rfl, hbi⟩ := hrel
          by_cases hlti : i < 3
          · have hi3 : (i : Int) < 3 := by omega
            obtain ⟨wo, rfl⟩ : ∃ wo : World, wo = wr := ⟨_, rfl⟩
            obtain ⟨bb, off, li, Ai, ni, ci, hA, hbB', hli, hcell, hri, hic, him⟩ := HROW.out.at_ hlti
            injection hA with hA
            injection hA with hA1 hA2
            subst hA1 hA2
            rw [Nat.zero_add] at hcell
            have hlen136 : li.length ≤ 136 := HLS.out li (List.mem_of_getElem? hli)
            have hni : ni ≤ 136 := by rw [← hri.len]; exact hlen136
            go_wp2
            go_loopw [13] (fun k wr => RoundRel 3 wz k wr) (fun k _ => 3 - (intOf k).toNat)
            case atStart => exact ⟨0, by omega, rfl, hbi⟩
            case round =>
              obtain ⟨k, hk, rfl, hbk⟩ := hrel
              by_cases hltk : k < 3
              · have hk3 : (k : Int) < 3 := by omega
                obtain ⟨m, ⟨hm1, hm2⟩, hcm⟩ := HINT.out k hltk
                have ca := cell_later hbk.drew hcell
                have cm := cell_later hbk.drew hcm
                have hr1 := (hri.up hbk.drew)
                have kA : ∀ p : Abv NoG wr.drew, p.val.cell? ⟨w6.heap.size, i, none⟩ = some (.slice Ai ni ci) := fun p => cell_later p.below ca
                have kM : ∀ p : Abv NoG wr.drew, p.val.cell? ⟨w6.heap.size + 1, k, none⟩ = some (.int .i64 m) := fun p => cell_later p.below cm
                have ii : (0 : Int) ≤ i := by omega
                have ki : (0 : Int) ≤ k := by omega
                go_wp2
                refine wp_region_plan NoG [(0, false), (1, false), (2, false), (3, false), (4, false), (5, false), (6, false), (7, false), (8, true), (9, false), (10, false), (11, false), (12, false), (13, false), (14, false), (15, false)] (by kernel_rfl) (by kernel_rfl) ?_
                repeat (refine plan_take (by simp only [List.getElem?_toArray, List.getElem?_cons_succ, List.getElem?_cons_zero]; exact rfl) ?_; go_big_quiet_step (fail); refine wpQuiet_nil ?_)
                refine plan_solo (by simp only [List.getElem?_toArray, List.getElem?_cons_succ, List.getElem?_cons_zero]; exact rfl) ?_
                go_wp2_with fail
                refine (split_any Ai ni ci li m _ hr1 hic him (by omega) hm1 hm2).mono ?_
                rintro e w9 ⟨As, ns, cs, lss, Ar, nr, cr, r, E, hlss, hr, hE, rfl, howns, hrr, hb9⟩
                go_wp2
                refine Solo.up hb9 ?_
                clear kA kM
                repeat (refine plan_take (by simp only [List.getElem?_toArray, List.getElem?_cons_succ, List.getElem?_cons_zero]; exact rfl) ?_; go_big_quiet_step (fail); refine wpQuiet_nil ?_)
                refine plan_end ?_
                have hb9' := below_of_drew hb9
                have hbz9 := Up.trans hbk hb9'
                have ca9 := cell_later (w := wz) hbz9.drew hcell
                have cm9 := cell_later (w := wz) hbz9.drew hcm
                have hr9 : RdB w9.drew w9.drew.heap.size Ai ni li := hri.up hbz9.drew
                have hz9 : w6.heap.size + 1 < w9.heap.size := World.block_lt_of_cell? _ _ cm9
                have kA : ∀ p : Abv (Ge w9.heap.size) w9.drew, p.val.cell? ⟨w6.heap.size, i, none⟩ = some (.slice Ai ni ci) := cell_abv ca9 (by unfold Ge; omega)
                have kM : ∀ p : Abv (Ge w9.heap.size) w9.drew, p.val.cell? ⟨w6.heap.size + 1, k, none⟩ = some (.int .i64 m) := cell_abv cm9 (by unfold Ge; omega)
                have HR9 := Lib.hid hr9
                have HRR := Lib.hid hrr
                clear ca cm hr1 hr9 hrr
                go_wp2
                refine wp_region_plan2 (Ge w9.heap.size) [.t 0, .t 1, .t 2, .t 3, .t 4, .t 5, .t 6, .t 7, .b 8 9, .s 10] (by kernel_rfl) (by kernel_rfl) ?_
                repeat (refine plan2_take (by simp only [List.getElem?_toArray, List.getElem?_cons_succ, List.getElem?_cons_zero]; exact rfl) ?_; go_big_quiet_step (fail); refine wpQuiet_nil ?_)
                refine plan2_both (by simp only [List.getElem?_toArray, List.getElem?_cons_succ, List.getElem?_cons_zero]; exact rfl) (by simp only [List.getElem?_toArray, List.getElem?_cons_succ, List.getElem?_cons_zero]; exact rfl) ?_ ?_
                · go_wp2_with fail
                  refine (refSplit_any w9.drew.heap.size Ai ni ci li m _ (Nat.le_refl _) HR9.out hic him (by omega) hm1 hm2).mono ?_
                  rintro e w10 ⟨At, nt, ct, vt, lt, Au, nu, cu, ru, Eu, hlt', hru, hEu, rfl, hownt, hpt, hrdu, hb10⟩
                  obtain rfl : lss = lt := hlss.out.trans hlt'.out.symm
                  obtain rfl : r = ru := hr.out.trans hru.out.symm
                  obtain rfl : E = Eu := hE.out.trans hEu.out.symm
                  go_wp2
                  refine Solo.up hb10 ?_
                  go_wp2
                  refine Solo.up ((Below.refl _ _).alloc (Nat.le_refl _) _) ?_
                  refine plan2_solo (by simp only [List.getElem?_toArray, List.getElem?_cons_succ, List.getElem?_cons_zero]; exact rfl) ?_
                  have hBn := Blk.new w10 47 [.slice none 0 0, .slice none 0 0, .int .i64 0]
                  refine wpList_storeBlk rfl (.tmp 17) (.tmp 81) rfl rfl [.slice At nt ct, .slice Au nu cu, .int .i64 E] rfl rfl (by kernel_rfl) hBn rfl (by simp [Value.oneCell']) ?_
                  refine wpList_nil ?_
                  refine Solo.mk ((keeps_setRow _ _).mono (fun q _ hq => by have hq' : q = w10.heap.size := hq; have := hb10.size; show w9.heap.size ≤ q; simp at this; omega)) ?_
                  repeat (refine plan2_take (by simp only [List.getElem?_toArray, List.getElem?_cons_succ, List.getElem?_cons_zero]; exact rfl) ?_; go_big_quiet_step (fail); refine wpQuiet_nil ?_)
                  refine plan2_end ?_
                  have hBs := hBn.setRow [.slice At nt ct, .slice Au nu cu, .int .i64 E]
                  have hbS : Below w10.heap.size w10 ((w10.alloc (.cells #[.slice none 0 0, .slice none 0 0, .int .i64 0] 47)).setRow w10.heap.size #[.slice At nt ct, .slice Au nu cu, .int .i64 E]) := below_setRow ((Below.refl _ _).alloc (Nat.le_refl _) _) (Nat.le_refl _) _
                  have q0 := hBs.cell 0 _ rfl
                  have q1 := hBs.cell 1 _ rfl
                  have q2 := hBs.cell 2 _ rfl
                  generalize (w10.alloc (.cells #[.slice none 0 0, .slice none 0 0, .int .i64 0] 47)).setRow w10.heap.size #[.slice At nt ct, .slice Au nu cu, .int .i64 E] = wS at hbS q0 q1 q2
                  have hb9S : Below w9.heap.size w9 wS := Up.trans (below_of_drew hb10) hbS
                  have hz10 : w9.heap.size ≤ w10.heap.size := hb10.size
                  have u1 := str_of (c := cr) (HRR.out.up hb9S) (Below.refl _ _)
                  have u2 := str_of (c := cu) ((hrdu.more hz10).up hbS) (Below.refl _ _)
                  have hS1 := (howns.up hb9S).rd
                  have hS2 := ((owBB_of hownt hpt (Nat.le_refl _) hz10).up hbS).rd
                  have hns : ns ≤ 1048576 := by rw [← howns.len, hlss.out]; exact Nat.le_trans (split_ms_le m li) (by omega)
                  have HS1 := Lib.hid hS1
                  have HS2 := Lib.hid hS2
                  clear hBn hBs hS1 hS2 hownt hpt howns kA kM
                  go_wp2_with fail
                  refine (sameBytes_eq As ns cs At nt ct lss _ HS1.out HS2.out hns).mono ?_
                  rintro e w11 ⟨rfl, hb11⟩
                  clear u1 u2 q0 q1 q2
                  go_wp2
                  go_roundw
                  case rel => exact ⟨k + 1, by omega, by go_num, Up.trans hbz9 (Up.trans hb9S hb11)⟩
                  case measure => simp [intOf]; omega
                · go_wp2
                  refine Solo.up ((Below.refl _ _).alloc (Nat.le_refl _) _) ?_
                  go_wp2_with fail
                  refine (refSplit_any w9.drew.heap.size Ai ni ci li m _ (by simp) (HR9.out.alloc (Nat.le_refl _) _) hic him (by omega) hm1 hm2).mono ?_
                  rintro e w10 ⟨At, nt, ct, vt, lt, Au, nu, cu, ru, Eu, hlt', hru, hEu, rfl, hownt, hpt, hrdu, hb10⟩
                  obtain rfl : lss = lt := hlss.out.trans hlt'.out.symm
                  obtain rfl : r = ru := hr.out.trans hru.out.symm
                  obtain rfl : E = Eu := hE.out.trans hEu.out.symm
                  have hBn := (Blk.new w9.drew 47 [.slice none 0 0, .slice none 0 0, .int .i64 0]).up hb10
                  have hz10 : w9.heap.size + 1 ≤ w10.heap.size := by have := hb10.size; simp at this; omega
                  go_wp2
                  refine Solo.up hb10 ?_
                  refine plan2_solo (by simp only [List.getElem?_toArray, List.getElem?_cons_succ, List.getElem?_cons_zero]; exact rfl) ?_
                  refine wpList_storeBlk rfl (.tmp 17) (.tmp 81) rfl rfl [.slice At nt ct, .slice Au nu cu, .int .i64 E] rfl rfl (by kernel_rfl) hBn rfl (by simp [Value.oneCell']) ?_
                  refine wpList_nil ?_
                  refine Solo.mk ((keeps_setRow _ _).mono (fun q _ hq => by have hq' : q = w9.heap.size := hq; show w9.heap.size ≤ q; omega)) ?_
                  repeat (refine plan2_take (by simp only [List.getElem?_toArray, List.getElem?_cons_succ, List.getElem?_cons_zero]; exact rfl) ?_; go_big_quiet_step (fail); refine wpQuiet_nil ?_)
                  refine plan2_end ?_
                  have hBs := hBn.setRow [.slice At nt ct, .slice Au nu cu, .int .i64 E]
                  have hkS := keeps_setRow (g := w9.heap.size) w10 #[.slice At nt ct, .slice Au nu cu, .int .i64 E]
                  have hbS : Below w9.heap.size w10 (w10.setRow w9.heap.size #[.slice At nt ct, .slice Au nu cu, .int .i64 E]) := below_setRow (Below.refl _ _) (Nat.le_refl _) _
                  have hb9S : Below w9.heap.size w9 (w10.setRow w9.heap.size #[.slice At nt ct, .slice Au nu cu, .int .i64 E]) := (((below_of_drew ((Below.refl w9.drew.heap.size w9.drew).alloc (Nat.le_refl _) _)).trans (hb10.mono (by simp)))).trans hbS
                  have hownS := Own.keeps hownt hkS (by intro q hq hq2; have : q = w9.heap.size := hq2; simp at hq; omega)
                  have q0 : (w10.setRow w9.heap.size #[.slice At nt ct, .slice Au nu cu, .int .i64 E]).cell? ⟨w9.heap.size, 0, none⟩ = some (.slice At nt ct) := hBs.cell 0 _ rfl
                  have q1 : (w10.setRow w9.heap.size #[.slice At nt ct, .slice Au nu cu, .int .i64 E]).cell? ⟨w9.heap.size, 1, none⟩ = some (.slice Au nu cu) := hBs.cell 1 _ rfl
                  have q2 : (w10.setRow w9.heap.size #[.slice At nt ct, .slice Au nu cu, .int .i64 E]).cell? ⟨w9.heap.size, 2, none⟩ = some (.int .i64 E) := hBs.cell 2 _ rfl
                  have hptS := hpt.below (hbS.mono (by simp))
                  have hrduS := hrdu.below (hbS.mono (by simp))
                  have hzS : w10.heap.size ≤ (w10.setRow w9.heap.size #[.slice At nt ct, .slice Au nu cu, .int .i64 E]).heap.size := hbS.size
                  generalize w10.setRow w9.heap.size #[.slice At nt ct, .slice Au nu cu, .int .i64 E] = wS at hbS hb9S hownS q0 q1 q2 hptS hrduS hzS
                  have u1 := str_of (c := cr) (HRR.out.up hb9S) (Below.refl _ _)
                  have u2 := str_of (c := cu) (hrduS.more (B' := wS.heap.size) (by simp; omega)) (Below.refl _ _)
                  have hS1 := (howns.up hb9S).rd
                  have hS2 := (owBB_of hownS hptS (by simp) (by simp; omega)).rd
                  have hns : ns ≤ 1048576 := by rw [← howns.len, hlss.out]; exact Nat.le_trans (split_ms_le m li) (by omega)
                  have HS1 := Lib.hid hS1
                  have HS2 := Lib.hid hS2
                  clear hBn hBs hS1 hS2 hownt hpt howns kA kM hownS hptS hrduS hkS
                  go_wp2_with fail
                  refine (sameBytes_eq As ns cs At nt ct lss _ HS1.out HS2.out hns).mono ?_
                  rintro e w11 ⟨rfl, hb11⟩
                  clear u1 u2 q0 q1 q2
                  go_wp2
                  go_roundw
                  case rel => exact ⟨k + 1, by omega, by go_num, Up.trans hbz9 (Up.trans hb9S hb11)⟩
                  case measure => simp [intOf]; omega
              · have hk3 : ¬ (k : Int) < 3 := by omega
                go_wp2
                go_roundw
                case rel => exact ⟨i + 1, by omega, by go_num, hbk⟩
                case measure => simp [intOf]; omega
          · have hi3 : ¬ (i : Int) < 3 := by omega
            go_wp2_with fail
            refine (lives_any _).mono ?_
            rintro e w9 ⟨rfl, hb9⟩
            go_wp2
            go_ret
            exact ⟨rfl, Up.trans hall (Up.trans hbi hb9)⟩
end Go.Proofs.Ythfepdgamhidgaa
