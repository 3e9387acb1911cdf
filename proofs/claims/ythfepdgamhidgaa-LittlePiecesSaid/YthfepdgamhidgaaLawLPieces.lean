/-
  Layer 2: the law LittlePieces, walked.
-/
import Derived.Test.YthfepdgamhidgaaLittleY
import Derived.Test.YthfepdgamhidgaaLittleZ
import Derived.Test.YthfepdgamhidgaaLittleC
import Derived.Deep.CutBlock
namespace Go.Proofs.Ythfepdgamhidgaa
open Go.RowKit
set_option linter.unusedVariables false

theorem splitF_ms_leP (msize : Int) : ∀ (f : Nat) (b : List UInt8), (splitF msize f b).ms.length ≤ f := by
  intro f
  induction f with
  | zero => intro b; simp [splitF]
  | succ f ih =>
    intro b
    simp only [splitF]
    split
    · simp
    split
    · simp
    split
    · simp
    split
    · simp
    · simp only [List.length_cons]
      have := ih (b.drop (num (b.take 4)))
      omega
theorem split_ms_leP (msize : Int) (b : List UInt8) : (splitL msize b).ms.length ≤ b.length := splitF_ms_leP msize _ b

theorem i64_at {w : World} {B n k : Nat} {A : Option Addr} {zs : List Int} (h : RdV w B A n (kv .i64 zs)) (hk : k < n) (hz : ∀ z ∈ zs, -9223372036854775808 ≤ z ∧ z ≤ 9223372036854775807) :
    ∃ b off z, A = some ⟨b, off, none⟩ ∧ b < B ∧ w.cell? ⟨b, off + k, none⟩ = some (.int .i64 z) ∧ -9223372036854775808 ≤ z ∧ z ≤ 9223372036854775807 := by
  obtain ⟨b, off, u, h1, h2, h3, h4⟩ := h.at_ hk
  have hl : k < zs.length := by
    have := (List.getElem?_eq_some_iff.1 h3).1
    simpa [kv] using this
  simp only [kv, List.getElem?_map, List.getElem?_eq_getElem hl] at h3
  simp at h3
  subst h3
  exact ⟨b, off, _, h1, h2, h4, hz _ (List.getElem_mem hl)⟩

def PkRel5 (w : World) (v i : Value) (wr : World) : Prop :=
  ∃ (j n' c' : Nat) (A' : Option Addr) (l' : List UInt8), j ≤ 5 ∧ i = .int .i64 j ∧ v = .slice A' n' c' ∧ l'.length ≤ 19 * j ∧ OwB wr w.heap.size A' n' c' l' ∧ Below w.heap.size w wr

def PcRel (w : World) (O : List UInt8) (g r a i : Value) (wr : World) : Prop :=
  ∃ (Ag : Option Addr) (ng cg : Nat) (gl : List (List UInt8)) (Ar : Option Addr) (nr cr : Nat) (rl : List UInt8) (k q : Nat), g = .slice Ag ng cg ∧ r = .slice Ar nr cr ∧ a = .int .i64 k ∧ i = .int .i64 q ∧ k ≤ O.length ∧ q / 9 ≤ k ∧
    OwBL wr w.heap.size w.heap.size Ag ng cg gl ∧ RdB wr wr.heap.size Ar nr rl ∧ nr ≤ cr ∧ cr ≤ maxLen ∧ Hid (gl = (splitL 64 (O.take k)).ms) ∧ Hid (rl = (splitL 64 (O.take k)).rest) ∧ Hid ((splitL 64 (O.take k)).err = 0) ∧ Below w.heap.size w wr

/-- How far a piece goes. -/
theorem pieces_next (k m N : Nat) : (if (N : Int) < (k : Int) + m then (N : Int) else (k : Int) + m) = ((min (k + m) N : Nat) : Int) := by
  split <;> omega

set_option maxRecDepth 100000 in
set_option maxHeartbeats 8000000 in
theorem littlePieces_walk (A0 : Option Addr) (n0 c0 : Nat) (ls : List (List UInt8)) (A1 : Option Addr) (n1 c1 : Nat) (l1 : List UInt8) (A2 : Option Addr) (n2 c2 : Nat) (zs : List Int) (w : World)
    (h0 : RdBB w w.heap.size A0 n0 ls) (hn0 : n0 ≤ 9223372036854775807) (h1 : RdB w w.heap.size A1 n1 l1) (hc1 : n1 ≤ c1) (hm1 : c1 ≤ maxLen)
    (h2 : RdV w w.heap.size A2 n2 (kv .i64 zs)) (hz : ∀ z ∈ zs, -9223372036854775808 ≤ z ∧ z ≤ 9223372036854775807) (hn2 : n2 ≤ 9223372036854775807) :
    Calls Try.prog 5 #[.slice A0 n0 c0, .slice A1 n1 c1, .slice A2 n2 c2] w fun e w' => e = .returned (.bool true) ∧ Below w.heap.size w w' := by
  have H0 := Lib.hid h0
  have H1 := Lib.hid h1
  have H2 := Lib.hid h2
  have HZ := Lib.hid hz
  clear h0 h1 h2 hz
  go_enter Try.func5, Try.ntmps5
  go_upto_block 0 with fail
  go_cut [7, 8] from 19 (fun v i wx => PkRel5 w v i wx)
  case first =>
    go_wp2_with fail
    go_loopw [7, 8] (fun v i wr => PkRel5 w v i wr) (fun _ i _ => 5 - (intOf i).toNat)
    case atStart => exact ⟨0, 0, 0, none, [], by omega, rfl, rfl, by simp, OwB.nil _ _, Below.refl _ _⟩
    case round =>
      obtain ⟨j, n', c', A', l', hj, rfl, rfl, hl', hown', hbw⟩ := hrel
      have hln : n' ≤ 95 := by rw [← hown'.len]; omega
      have hsw := hbw.size
      by_cases hlt : j < n0 ∧ j < 5
      · obtain ⟨hlt1, hlt4⟩ := hlt
        obtain ⟨b, off, li, Ai, ni, ci, hA, hbB, hli, hcell, hri, hic, him⟩ := H0.out.at_ hlt1
        subst hA
        have kc := cell_later hbw hcell
        have hj4 : (j : Int) < 5 := by omega
        clear hcell
        go_wp2_with fail
        refine (few_any Ai ni ci li 12 _ (hri.up hbw) hic him (by omega)).mono ?_
        rintro e w2 ⟨Aq, nq, cq, q, hq, rfl, hownq, hbq⟩
        have hnq : nq ≤ 12 := by rw [← hownq.len, hq.out, List.length_take]; omega
        have hlq : q.length ≤ 12 := by rw [hownq.len]; exact hnq
        go_wp2_with fail
        refine (refPack_any (100 + j) j Aq nq cq q _ hownq.rd (by omega) (by omega) (by omega)).mono ?_
        rintro e w3 ⟨Ap, np, cp, pl, hpl, rfl, hownp, hbp⟩
        have hlp : pl.length ≤ 19 := by rw [hpl.out]; simp [packL, le_length]; omega
        have hnp : np ≤ 19 := by rw [← hownp.len]; exact hlp
        have hbqp := Up.trans hbq hbp
        have hown3 := hown'.up hbqp
        have HS3 := Lib.hid (Nat.le_trans hsw hbqp.size)
        have H3 := Lib.hid (hownp.rd.src (P := Try.prog) (c := cp) 22 5 Try.underlying22)
        clear kc
        go_wp2_with (at_builtin; go_must (refine wpList_appendB bytesElem rfl (.tmp 29) (.tmp 38) 22 rfl w.heap.size A' n' c' l' rfl hown3 _ rfl np pl H3.out (by omega) HS3.out ?_); intro A4 n4 c4 l4 w4 hl4 hn4 hown4 hb4 hg4)
        have hb04 := (hbw.trans (hbqp.mono hsw)).trans hb4
        go_roundw
        case rel => exact ⟨j + 1, n4, c4, A4, l4, by omega, by go_num, rfl, by rw [hl4.out, List.length_append]; omega, hown4, hb04⟩
        case measure => simp [intOf]; omega
      · have hstop : (decide ((j : Int) < n0) = false ∧ decide (j < n0) = false) ∨ (j < n0 ∧ decide ((j : Int) < 5) = false ∧ decide (j < 5) = false) := by
          rcases Nat.lt_or_ge j n0 with h | h
          · right; exact ⟨h, by simp; omega, by simp; omega⟩
          · left; exact ⟨by simp; omega, by simp; omega⟩
        clear hlt
        rcases hstop with ⟨s1, s2⟩ | ⟨s1, s2, s3⟩
        all_goals
          go_wp2_with fail
          go_meet
          exact ⟨j, n', c', A', l', hj, rfl, rfl, hl', hown', hbw⟩
  case rest =>
    obtain ⟨j, n', c', A', l', hj, rfl, rfl, hl', hown', hbw⟩ := hcut
    have hln : n' ≤ 95 := by rw [← hown'.len]; omega
    have hsw := hbw.size
    go_wp2_with fail
    refine (few_any A1 n1 c1 l1 9 _ (H1.out.up hbw) hc1 hm1 (by omega)).mono ?_
    rintro e w5 ⟨Ag, ng, cg, lg, hlg, rfl, howng, hbg⟩
    have hlg9 : lg.length ≤ 9 := by rw [hlg.out, List.length_take]; omega
    have hng : ng ≤ 9 := by rw [← howng.len]; exact hlg9
    have hown5 := hown'.up hbg
    have HSg := Lib.hid (Nat.le_trans hsw hbg.size)
    have Hf := Lib.hid (howng.rd.src (P := Try.prog) (c := cg) 22 5 Try.underlying22)
    go_wp2_with (at_builtin; go_must (refine wpList_appendB bytesElem rfl (.tmp 40) (.tmp 42) 22 rfl w.heap.size A' n' c' l' rfl hown5 _ rfl ng lg Hf.out (by omega) HSg.out ?_); intro A6 nO c6 O w6 hl6 hn6 hown6 hb6 hg6)
    have hb06 : Below w.heap.size w w6 := (hbw.trans (hbg.mono hsw)).trans hb6
    have hO104 : O.length ≤ 104 := by rw [hl6.out, List.length_append]; omega
    have hOn : O.length = nO := hown6.len
    have hnO : nO ≤ 104 := by omega
    have hcap6 := hown6.cap
    refine (refSplit_any w6.heap.size A6 nO c6 O 64 _ (Nat.le_refl _) hown6.rd hcap6.1 hcap6.2 (by omega) (by omega) (by omega)).mono ?_
    rintro e w7 ⟨At, nt, ct, vt, lt, Au, nu, cu, ru, Eu, hlt', hru, hEu, rfl, hownt, hpt, hrdu, hb7⟩
    have hBn := Blk.new w7 47 [.slice none 0 0, .slice none 0 0, .int .i64 0]
    go_wp2_with (refine wpList_storeBlk rfl (.tmp 9) (.tmp 45) rfl rfl [.slice At nt ct, .slice Au nu cu, .int .i64 Eu] rfl rfl (by kernel_rfl) hBn rfl (by simp [Value.oneCell']) ?_)
    have hBs := hBn.setRow [.slice At nt ct, .slice Au nu cu, .int .i64 Eu]
    have hbS : Below w7.heap.size w7 ((w7.alloc (.cells #[.slice none 0 0, .slice none 0 0, .int .i64 0] 47)).setRow w7.heap.size #[.slice At nt ct, .slice Au nu cu, .int .i64 Eu]) := below_setRow ((Below.refl _ _).alloc (Nat.le_refl _) _) (Nat.le_refl _) _
    have q0 := hBs.cell 0 _ rfl
    have q1 := hBs.cell 1 _ rfl
    have q2 := hBs.cell 2 _ rfl
    generalize (w7.alloc (.cells #[.slice none 0 0, .slice none 0 0, .int .i64 0] 47)).setRow w7.heap.size #[.slice At nt ct, .slice Au nu cu, .int .i64 Eu] = wS at hbS q0 q1 q2
    have hz67 : w6.heap.size ≤ w7.heap.size := hb7.size
    have hrO : RdB wS wS.heap.size A6 nO O := (hown6.rd.up hb7).up hbS
    have hrL : RdBB wS wS.heap.size At nt lt := ((owBB_of hownt hpt (Nat.le_refl _) hz67).up hbS).rd
    have hrR : RdB wS wS.heap.size Au nu ru := (hrdu.more hz67).up hbS
    have hall : Below w.heap.size w wS := Up.trans hb06 (Up.trans hb7 hbS)
    have hr2 : RdV wS wS.heap.size A2 n2 (kv .i64 zs) := H2.out.up hall
    have HRO := Lib.hid hrO
    have HRL := Lib.hid hrL
    have HRR := Lib.hid hrR
    have HR2 := Lib.hid hr2
    have HON := Lib.hid hOn
    have hntb : lt.length ≤ 104 := by rw [hlt'.out]; exact Nat.le_trans (split_ms_leP 64 O) hO104
    clear hrO hrL hrR hr2 hBn hBs hownt hpt hrdu hown' hown5 hown6 howng Hf HSg hg6 hOn
    obtain ⟨gS, hgS⟩ : ∃ gS, gS = w7.heap.size := ⟨_, rfl⟩
    rw [← hgS] at q0 q1 q2 ⊢
    clear hgS
    go_loopw [10, 11, 12, 13] (fun g r a i wr => PcRel wS O g r a i wr) (fun _ _ a i _ => 9 * (O.length - (intOf a).toNat) + (8 - (intOf i).toNat % 9))
    case atStart => exact ⟨none, 0, 0, [], none, 0, 0, [], 0, 0, rfl, rfl, rfl, rfl, by omega, by omega, OwBL.nil _ _ _, RdB.nil, by omega, by unfold maxLen; omega, rfl, rfl, rfl, Below.refl _ _⟩
    case round =>
      obtain ⟨Ag, ng, cg, gl, Ar, nr, cr, rl, k, q, rfl, rfl, rfl, rfl, hk, hq9, howg, hrr, hrc, hrm, hgl, hrl, her, hbk⟩ := hrel
      have hq1 : q ≤ 944 := by omega
      have hkO : k ≤ nO := by rw [← HON.out]; exact hk
      by_cases hltk : k < nO
      · have hgoal : ∀ m : Nat, ∃ nx : Nat, (if (nO : Int) < (k : Int) + m then (nO : Int) else (k : Int) + m) = nx ∧ k ≤ nx ∧ nx ≤ nO ∧ (1 ≤ m → k < nx) := fun m => ⟨min (k + m) nO, pieces_next k m nO, by omega, by omega, by omega⟩
        have hrO2 : RdB wr wr.heap.size A6 nO O := HRO.out.up hbk
        rcases Nat.eq_zero_or_pos n2 with h20 | h20
        case' inl =>
          subst h20
          obtain ⟨nx, hmin, hkx, hxO, hadv0⟩ := hgoal 5
          have hadv : q % 9 = 8 → k < nx := fun _ => hadv0 (by omega)
          have hmin5 : (if (nO : Int) < (k : Int) + 5 then (nO : Int) else (k : Int) + 5) = nx := hmin
          clear hgoal hmin hadv0
          by_cases hq8 : q % 9 = 8
          all_goals
            go_upto_region 20 with fail
            clear hmin5
        case' inr =>
          obtain ⟨b2, off2, z, hA2, hb2, hc2, hz0, hz1⟩ := i64_at HR2.out (Nat.mod_lt q h20) HZ.out
          subst hA2
          have kc2 := cell_later hbk hc2
          have hi0 : (0 : Int) ≤ (q : Int) % n2 := Int.emod_nonneg _ (by omega)
          have hi1 : (q : Int) % n2 < n2 := Int.emod_lt_of_pos _ (by omega)
          go_wp2_with fail
          refine (around_any z 13 _ hz0 hz1 (by omega) (by omega)).mono ?_
          rintro e w' ⟨kk, hkk, hk13, rfl, rfl⟩
          clear kc2 hi0 hi1
          by_cases hq8 : q % 9 = 8
          case' pos =>
            rcases Nat.eq_zero_or_pos kk with h0 | h0
            case' inl =>
              subst h0
              obtain ⟨nx, hnx⟩ : ∃ nx, nx = k + 1 := ⟨_, rfl⟩
              have hkx : k ≤ nx := by omega
              have hxO : nx ≤ nO := by omega
              have hadv : q % 9 = 8 → k < nx := fun _ => by omega
              have hmin : (k : Int) + 1 = nx := by omega
              clear hgoal hnx
              go_upto_region 20 with fail
              clear hmin
            case' inr =>
              obtain ⟨nx, hmin, hkx, hxO, hadv0⟩ := hgoal kk
              have hadv : q % 9 = 8 → k < nx := fun _ => hadv0 (by omega)
              have hk1 : ¬ (kk : Int) < 1 := by omega
              clear hgoal hadv0
              go_upto_region 20 with fail
              clear hmin
          case' neg =>
            obtain ⟨nx, hmin, hkx, hxO, hadv0⟩ := hgoal kk
            have hadv : q % 9 = 8 → k < nx := fun h => absurd h hq8
            clear hgoal hadv0
            go_upto_region 20 with fail
            clear hmin
        all_goals
          have hx0 : (0 : Int) ≤ k := by omega
          have hx1 : (k : Int) ≤ nx := by omega
          have hx2 : (nx : Int) ≤ c6 := by omega
          have hpc := (hrO2.first (k := nx) hxO).cut hkx (show nx ≤ c6 by omega)
          rw [if_neg (show ¬ c6 = k by omega)] at hpc
          have HPC := Lib.hid hpc.drew
          have HGR := Lib.hid howg
          clear hpc howg hrO2
          refine wp_region_plan Any [(0, false), (2, false), (3, false), (4, false), (5, false), (1, true), (6, true), (7, true), (8, false), (9, false), (10, false), (11, false), (12, false), (13, false), (14, false)] (by kernel_rfl) (by kernel_rfl) ?_
          repeat (refine plan_take (by simp only [List.getElem?_toArray, List.getElem?_cons_succ, List.getElem?_cons_zero]; exact rfl) ?_; go_big_quiet_step (fail); refine wpQuiet_nil ?_)
          refine plan_solo (by simp only [List.getElem?_toArray, List.getElem?_cons_succ, List.getElem?_cons_zero]; exact rfl) ?_
          go_wp2_with fail
          refine (few_any Ar nr cr rl 200 _ hrr.drew hrc hrm (by omega)).mono ?_
          rintro e wf ⟨Af, nf, cf, lf, hlf, rfl, hownf, hbf⟩
          have hrl64 : rl.length < 64 := by rw [hrl.out]; exact split_rest _
          have hlfr : lf = rl := by rw [hlf.out]; exact List.take_of_length_le (by omega)
          have hnf : nf ≤ 63 := by rw [← hownf.len, hlfr]; omega
          have HSf := Lib.hid hbf.size
          have Hpc := Lib.hid ((HPC.out.up hbf).src (P := Try.prog) (c := c6 - k) 22 5 Try.underlying22)
          go_wp2
          refine Solo.up hbf ?_
          refine plan_solo (by simp only [List.getElem?_toArray, List.getElem?_cons_succ, List.getElem?_cons_zero]; exact rfl) ?_
          refine wpList_appendB bytesElem rfl (.tmp 76) (.tmp 80) 22 rfl wr.heap.size Af nf cf lf rfl hownf _ rfl (nx - k) _ Hpc.out (by omega) HSf.out ?_
          intro Ab nb cb lb wb hlb hnb hownb hbb hgb
          refine wpList_nil ?_
          refine Solo.mk (Keeps.any_below hbb) ?_
          refine plan_solo (by simp only [List.getElem?_toArray, List.getElem?_cons_succ, List.getElem?_cons_zero]; exact rfl) ?_
          have hnb' : nb ≤ 167 := by rw [hnb.out]; omega
          have hcapb := hownb.cap
          go_wp2_with fail
          refine (split_any Ab nb cb lb 64 _ hownb.rd hcapb.1 hcapb.2 (by omega) (by omega) (by omega)).mono ?_
          rintro e w9 ⟨As, ns, cs, lss, Al, nl, cl, r9, E, hlss, hr9, hE, rfl, howns, hrd9, hcap9, hb9⟩
          go_wp2
          refine Solo.up hb9 ?_
          repeat (refine plan_take (by simp only [List.getElem?_toArray, List.getElem?_cons_succ, List.getElem?_cons_zero]; exact rfl) ?_; go_big_quiet_step (fail); refine wpQuiet_nil ?_)
          refine plan_end ?_
          have hbrb : Below wr.heap.size wr wb := (below_of_drew hbf).trans hbb
          have hbr9 : Below wr.heap.size wr w9 := Up.trans hbrb hb9
          have hbS9 : Below wS.heap.size wS w9 := Up.trans hbk hbr9
          have hszb : wr.heap.size ≤ wb.heap.size := hbrb.size
          have hlbe : lb = rl ++ (O.take nx).drop k := by rw [hlb.out, hlfr]
          have hpiece := split_piece O k nx hkx her.out
          rw [← hgl.out, ← hrl.out, ← hlbe, ← hlss.out, ← hr9.out, ← hE.out] at hpiece
          have HP := Lib.hid hpiece
          have howg9 : OwBL w9 wS.heap.size wS.heap.size Ag ng cg gl := HGR.out.up hbr9
          have hgb9 : ∀ b, Ag = some b → b.block < wb.heap.size := fun b hb => Nat.lt_of_lt_of_le (HGR.out.lt b hb) hszb
          have hgn : gl.length ≤ 104 := by rw [hgl.out]; exact Nat.le_trans (split_ms_leP 64 _) (by rw [List.length_take]; omega)
          have hng : ng ≤ 104 := by rw [← howg9.len]; exact hgn
          have hns : ns ≤ 167 := by rw [← howns.len, hlss.out]; exact Nat.le_trans (split_ms_leP 64 _) (by rw [hownb.len]; exact hnb')
          have hsS9 : wS.heap.size ≤ w9.heap.size := hbS9.size
          have hsSb : wS.heap.size ≤ wb.heap.size := Nat.le_trans hbk.size hszb
          have HGB := Lib.hid hgb9
          clear hpiece hgb9 hownb hownf HPC Hpc HSf
          go_upto_region 22 with (at_builtin; go_must (refine wpList_appendRows rowsElem rfl (.tmp 86) (.tmp 87) rfl wS.heap.size wS.heap.size Ag ng cg gl rfl howg9 wb.heap.size wb.heap.size As ns cs lss rfl howns HGB.out hsSb (by omega) hsS9 ?_); intro A5 n5 c5 gl5 w5' hgl5 hn5 hown5 hb5 hg5)
          have hbS5 : Below wS.heap.size wS w5' := hbS9.trans hb5
          have hrd5 : RdB w5' w5'.heap.size Al nl r9 := hrd9.thru (A := Ag) (fun h0 a b ha hb => by have := hcap9.2.2 h0 a ha; have := HGB.out b hb; omega) hg5
          have HP5 := HP
          rw [← hgl5.out] at HP5
          have hn5b : n5 ≤ 1048576 := by rw [hn5.out]; omega
          by_cases hE0 : E = 0
          · subst hE0
            clear q0 q1 q2
            go_wp2
            go_roundw
            case rel => exact ⟨A5, n5, c5, gl5, Al, nl, cl, r9, nx, q + 1, rfl, rfl, rfl, by go_num, by rw [HON.out]; exact hxO, by omega, hown5, hrd5, hcap9.1, hcap9.2.1, by show _ = _; rw [HP5.out], by show _ = _; rw [HP5.out], by show _ = _; rw [HP5.out], hbS5⟩
            case measure =>
              have := HON.out
              simp [intOf]
              omega
          · have hst := split_stop O nx (by rw [HP5.out]; exact hE0)
            rw [HP5.out] at hst
            obtain rfl : Eu = E := by rw [hEu.out, hst.1]
            obtain rfl : gl5 = lt := by rw [hlt'.out, hst.1]
            obtain rfl : r9 = [] := hst.2
            obtain rfl : nl = 0 := hrd5.len.symm
            have c0 := cell_later hbS5 q0
            have c1' := cell_later hbS5 q1
            have c2' := cell_later hbS5 q2
            have hL5 := HRL.out.up hbS5
            have HL5 := Lib.hid (hL5.more hbS5.size)
            have HO5 := Lib.hid hown5.rd
            have hEb : (Eu != 0) = true := by simp [hE0]
            clear hL5 q0 q1 q2 hst
            go_wp2_with fail
            refine (sameBytes_eq A5 n5 c5 At nt ct gl5 _ HO5.out HL5.out hn5b).mono ?_
            rintro e w11 ⟨rfl, hb11⟩
            clear c0 c1' c2'
            go_wp2_with fail
            refine (lives_any _).mono ?_
            rintro e w12 ⟨rfl, hb12⟩
            go_wp2
            go_ret
            exact ⟨rfl, Up.trans hall (Up.trans hbS5 (Up.trans hb11 hb12))⟩
      · obtain rfl : k = nO := by omega
        have hOt : O.take k = O := List.take_of_length_le (by rw [HON.out]; omega)
        have hE0 := her.out
        rw [hOt, ← hEu.out] at hE0
        have hg0 := hgl.out
        rw [hOt, ← hlt'.out] at hg0
        have hr0 := hrl.out
        rw [hOt, ← hru.out] at hr0
        subst hE0 hg0 hr0
        have c0 := cell_later hbk q0
        have c1' := cell_later hbk q1
        have c2' := cell_later hbk q2
        have hL5 := HRL.out.up hbk
        have HL5 := Lib.hid (hL5.more hbk.size)
        have HO5 := Lib.hid howg.rd
        have hng : ng ≤ 1048576 := by rw [← howg.len]; omega
        have u1 := str_of (c := cr) hrr (Below.refl _ _)
        have u2 := str_of (c := cu) (HRR.out.up hbk) (Below.refl _ _)
        clear hL5 q0 q1 q2
        go_wp2_with fail
        refine (sameBytes_eq Ag ng cg At nt ct gl _ HO5.out HL5.out hng).mono ?_
        rintro e w11 ⟨rfl, hb11⟩
        clear c0
        have d1 := cell_later hb11 c1'
        have v1 := str_of (c := cr) (hrr.up hb11) (Below.refl _ _)
        have v2 := str_of (c := cu) ((HRR.out.up hbk).up hb11) (Below.refl _ _)
        clear u1 u2 c1' c2'
        go_wp2_with fail
        refine (lives_any _).mono ?_
        rintro e w12 ⟨rfl, hb12⟩
        clear d1 v1 v2
        go_wp2
        go_ret
        exact ⟨rfl, Up.trans hall (Up.trans hbk (Up.trans hb11 hb12))⟩
end Go.Proofs.Ythfepdgamhidgaa
