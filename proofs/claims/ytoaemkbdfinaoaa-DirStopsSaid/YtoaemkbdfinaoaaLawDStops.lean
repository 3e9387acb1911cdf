/-
  The law DirStops, walked.
-/
import Derived.Test.YtoaemkbdfinaoaaDirO
namespace Go.Proofs.Ytoaemkbdfinaoaa
open Go.RowKit
attribute [local go_sem] Oper.semAt_some
set_option linter.unusedVariables false
set_option linter.unusedSimpArgs false

def StpJ (W6 w7 : World) (Al : Option Addr) (nl cl : Nat) (x : Value) (wr : World) : Prop :=
  ∃ i : Nat, i ≤ nl ∧ x = .int .i64 i ∧ Hid (Keeps (InBlk Al) w7 wr) ∧ Hid (0 < nl → ∃ g cs, Al = some ⟨g, 0, none⟩ ∧ Row wr g 42 cs ∧ cs.length = cl * 3)

set_option maxRecDepth 100000 in
set_option maxHeartbeats 8000000 in
theorem dirStops_walk (A0 : Option Addr) (n0 c0 : Nat) (zs : List Int) (y : Int) (w : World) (h : RdV w w.heap.size A0 n0 (kv .i64 zs)) (hz : ∀ z ∈ zs, -9223372036854775808 ≤ z ∧ z ≤ 9223372036854775807) (hn : n0 ≤ 9223372036854775807) (hyl : -9223372036854775808 ≤ y) (hyu : y ≤ 9223372036854775807) :
    Calls Try.prog 5 #[.slice A0 n0 c0, .int .i64 y] w fun e w' => e = .returned (.bool true) ∧ Below w.heap.size w w' := by
  have H := Lib.hid h
  have HZ := Lib.hid hz
  clear h hz
  have hfn := fun W lb => func_not_nil W 34 lb
  refine (callsIn_wide (n := 5)).1 ?_
  refine callsIn_of_wp_marks Try.func5 rfl trivial ?_ rfl
  simp only [Try.ntmps5, List.size_toArray, List.length_cons, List.length_nil, Nat.reduceAdd, Nat.reduceSub, Array.replicate_succ, Array.replicate_zero, List.push_toArray, List.append_toArray, List.nil_append, List.cons_append]
  refine wpIn_wide.2 ?_
  go_wp2_with fail
  refine (new_any _).mono ?_
  rintro e w1 ⟨rfl, hd1, hb1⟩
  have H1 := Lib.hid (DrIn.new hd1 (Below.refl _ _) hb1)
  clear hd1 hb1
  obtain ⟨k, hk10, hkn, hkk⟩ : ∃ k : Nat, k ≤ 8 ∧ k ≤ n0 ∧ Hid (k = 8 ∨ k = n0) := by
    by_cases h : 8 ≤ n0
    · exact ⟨8, by omega, h, Lib.hid (.inl rfl)⟩
    · exact ⟨n0, by omega, by omega, Lib.hid (.inr rfl)⟩
  go_wp2
  go_loopw [6, 7] (fun y x wr => DpgJ w w.heap.size k y x wr) (fun _ x _ => k - (intOf x).toNat)
  case atStart => exact ⟨0, none, 0, 0, none, 0, 0, [], by omega, rfl, rfl, Nat.le_refl _, ⟨H1.out, ⟨by simp, rfl, fun h => absurd h (by omega)⟩, .inl ⟨rfl, rfl, rfl⟩, Nat.le_refl _, Nat.zero_le _, fun b e => by cases e⟩⟩
  case round =>
    obtain ⟨j, A, n, c, Aw, nw, cw, es, hj, rfl, rfl, hes, ht⟩ := hrel
    have HNW := Lib.hid (show nw = es.length by have := ht.l.len; simpa using this.symm)
    have HND := Lib.hid (show n = es.length from ht.d.d.len.symm)
    have hnwl : nw ≤ 8 := Nat.le_trans (Nat.le_of_eq HNW.out) (Nat.le_trans hes (Nat.le_trans hj hk10))
    have hnl : n ≤ 8 := Nat.le_trans (Nat.le_of_eq HND.out) (Nat.le_trans hes (Nat.le_trans hj hk10))
    have hel : es.length ≤ 8 := Nat.le_trans hes (Nat.le_trans hj hk10)
    by_cases hlt : j < k
    · have j1 : (j : Int) < n0 := Int.ofNat_lt.2 (Nat.lt_of_lt_of_le hlt hkn)
      have j0 : (0 : Int) ≤ j := Int.natCast_nonneg j
      have j2 : (j : Int) < 8 := Int.ofNat_lt.2 (Nat.lt_of_lt_of_le hlt hk10)
      obtain ⟨b, off, z, hA, hz, hc⟩ := int_at (H.out.below ht.d.b) (show j < n0 from Nat.lt_of_lt_of_le hlt hkn)
      subst hA
      obtain ⟨zl, zu⟩ := HZ.out z (List.mem_of_getElem? hz)
      have HT := Lib.hid ht
      clear ht hz
      go_wp2_with fail
      refine (of_small z _ zl zu).mono ?_
      rintro e w3 ⟨rfl, hb3⟩
      have HT3 := Lib.hid (HT.out.up hb3)
      have o1 : (ofW z).length ≤ 32 := (ofW_ok z).2
      have hc3 := cell_later hb3 hc
      clear hc hb3
      go_wp2_with fail
      refine (refPut_any Aw nw cw es (ofW z) j 0 _ HT3.out.l HT3.out.form HT3.out.nc HT3.out.cm (by omega) (by omega)).mono ?_
      rintro e w4 ⟨Aw', nw', cw', rfl, hl', hf', hn', hc', ha', hb4⟩
      obtain ⟨hd4, hap4⟩ := HT3.out.list hb4 hl' hf' hn' hc' ha'
      have HD4 := Lib.hid hd4
      have HL4 := Lib.hid hl'
      have HF4 := Lib.hid hf'
      have HA4 := Lib.hid hap4
      have hc4 := cell_later hb4 hc3
      clear hl' hf' ha' hb4 hd4 hap4 hc3
      go_wp2_with fail
      refine (of_small z _ zl zu).mono ?_
      rintro e w5 ⟨rfl, hb5⟩
      have HD5 := Lib.hid (HD4.out.up hb5)
      have HL5 := Lib.hid ((HL4.out.below hb5).more hb5.size)
      have HA5 := Lib.hid (show ∀ b, InBlk Aw' b → b < w5.heap.size ∧ b ≠ w.heap.size ∧ ¬ InBlk A b from fun b hb => ⟨Nat.lt_of_lt_of_le (HA4.out b hb).1 hb5.size, (HA4.out b hb).2⟩)
      clear hb5 hc4
      go_wp2_with fail
      refine (put_any w.heap.size A n c es (ofW z) j 0 _ HD5.out.d (by omega) (by omega)).mono ?_
      rintro e w6 ⟨rfl, hp⟩
      obtain ⟨A', n', c', ht6⟩ := Two11.put HD5.out HL5.out HF4.out hn' hc' HA5.out hp
      have HT6 := Lib.hid ht6
      have hlen := putE_len es (ofW z) j 0
      clear hp ht6
      go_wp2
      go_roundw
      case rel => exact ⟨j + 1, A', n', c', Aw', nw', cw', _, by omega, by go_num, rfl, by omega, HT6.out⟩
      case measure => simp [intOf]; omega
    · obtain rfl : j = k := by omega
      have HT := Lib.hid ht
      clear ht
      have hkk := hkk.out
      have hstop : ¬ ((j : Int) < n0) ∨ ((j : Int) < n0 ∧ ¬ ((j : Int) < 8)) := by
        by_cases h1 : (j : Int) < n0
        · exact .inr ⟨h1, by omega⟩
        · exact .inl h1
      clear hkk
      obtain ⟨W0, rfl⟩ : ∃ W0, W0 = wr := ⟨_, rfl⟩
      rcases hstop with h1 | ⟨h1, h2⟩
      all_goals
        go_wp2_with fail
        refine (around_any y 9 _ hyl hyu (by omega) (by omega)).mono ?_
        rintro e w5 ⟨a, _, ha9, rfl, rfl⟩
        go_upto_region 11 with fail
        obtain ⟨W1, hW1⟩ : ∃ x, x = W0.alloc (.cells #[.int .i64 a] 3) := ⟨_, rfl⟩
        have hb1 : Below W0.heap.size W0 W1 := by rw [hW1]; exact (Below.refl _ _).alloc (Nat.le_refl _) _
        have hK1 : Blk W1 W0.heap.size 3 [.int .i64 a] := by rw [hW1]; exact Blk.new W0 3 [.int .i64 a]
        rw [← hW1]
        clear hW1
        go_wp2_with fail
        refine (All_any w.heap.size _).mono ?_
        rintro e W2 ⟨rfl, hW2⟩
        have hb2 : Below W1.heap.size W1 W2 := by rw [hW2]; exact (Below.refl _ _).alloc (Nat.le_refl _) _
        have hD2 : Blk W2 W1.heap.size 23 [.pointer (some ⟨w.heap.size, 0, none⟩)] := by rw [hW2]; exact Blk.new W1 23 [.pointer (some ⟨w.heap.size, 0, none⟩)]
        clear hW2
        go_upto_region 15 with fail
        obtain ⟨W3, hW3⟩ : ∃ x, x = W2.alloc (.cells #[.slice none 0 0] 25) := ⟨_, rfl⟩
        have hb3 : Below W2.heap.size W2 W3 := by rw [hW3]; exact (Below.refl _ _).alloc (Nat.le_refl _) _
        have hO3 : Blk W3 W2.heap.size 25 [.slice none 0 0] := by rw [hW3]; exact Blk.new W2 25 [.slice none 0 0]
        have hs3 : W3.heap.size = W2.heap.size + 1 := by rw [hW3]; simp
        rw [← hW3]
        have HT3 := Lib.hid (HT.out.up (Up.trans' (Up.trans' hb1 hb2) hb3))
        have hcD := (hD2.up hb3).cell 0 _ rfl
        have hoB : outB W2.heap.size W3 = none := by unfold outB; rw [hO3.cell 0 _ rfl]
        have HB3 := Lib.hid hb3
        have HS3 := Lib.hid hs3
        have HT2 := Lib.hid (HT.out.up (Up.trans' hb1 hb2))
        have HK2 := Lib.hid (hK1.up hb2)
        have HD2 := Lib.hid hD2
        have HBS := Lib.hid (show W1.heap.size < W2.heap.size from hD2.lt)
        have HKS := Lib.hid (show W0.heap.size < W1.heap.size from hK1.lt)
        clear hW3 hs3 hfn hb1 hb2 hb3 hK1 hD2
        go_wp2_with fail
        refine range_left (AllI W2 (es.take a)) ?range ?rest
        case range =>
          refine (wpIn_wide (n := 5)).1 ?_
          refine rangeH_act rfl (by omega) (gf := 34) (lb := #[.pointer (some ⟨W1.heap.size, 0, none⟩)]) rfl trivial (enters_of Try.func34 (by kernel_rfl) rfl)
            (all_stops 4 (by omega) w.heap.size W1.heap.size W2.heap.size (fun k => k = W2.heap.size) A n c es W3 HT3.out.d.d (by omega) hcD (by have := HBS.out; have := HS3.out; omega) (fun k hk => by have := HS3.out; omega) (by have := HS3.out; omega) (fun b hb => by rw [hoB] at hb; cases hb))
            (fun h k => h.trans k) (kpB_put (by have := HS3.out; omega)) (Below.refl _ _) (fun _ => rfl)
            (fun pre W => AllI W2 pre W ∧ pre.length ≤ a)
            (fun c q W => c = .exit 2 ∧ ∃ pre x, q = pre ++ [x] ∧ pre.length = a ∧ AllI W2 pre W)
            (fun pre X Y row h hg hr => ⟨allI_own W2 _ (by have := HS3.out; omega) pre X Y row h.1 hg hr, h.2⟩)
            (fun c q X Y row h hg hr => by
              obtain ⟨h1, pre, x, h2, h3, h4⟩ := h
              exact ⟨h1, pre, x, h2, h3, allI_own W2 _ (by have := HS3.out; omega) pre X Y row h4 hg hr⟩)
            ⟨⟨none, 0, 0, hO3, OwR.nil _ _ _ _, HB3.out⟩, Nat.zero_le _⟩
            (fun aa x a' W => StAx W2.heap.size aa x a' W)
            (stAx_own _ _)
            ?assign ?body ?done ?stop
          case assign =>
            rintro l pre x W K ⟨⟨A', n', c', hO, hR, hB⟩, hpl⟩ hK
            dsimp only [encE]
            gi_wp2
            exact hK _ _ ((KeepsOthers.alloc _ _).from _) (kp_alloc W _ hO.lt) ⟨⟨A', n', c', hO.up ((Below.refl _ _).alloc (Nat.le_refl _) _), hR.alloc _, hB.alloc hB.size _⟩, hpl⟩ ⟨W.heap.size, hO.lt, Blk.new W 31 [.int .i64 x.2.1, .int .i64 x.2.2], rfl⟩
          case body =>
            rintro l pre x a' W hl ⟨r, hr⟩ ⟨⟨A', n', c', hO, hR, hB⟩, hpl⟩ ⟨Bx, hBx, hX, rfl⟩ hlt
            simp only [List.setIfInBounds_toArray, List.set_cons_succ, List.set_cons_zero]
            have hnp : pre.length = n' := by have := hR.len; simpa using this
            have HNP := Lib.hid hnp
            have hn1 : n' ≤ 9 := by omega
            have o0 := hO.cell 0 _ rfl
            have x0 := hX.cell 0 _ rfl
            have x1 := hX.cell 1 _ rfl
            have k0 := (HK2.out.up hB).cell 0 _ rfl
            have HO := Lib.hid hO
            have HR := Lib.hid hR
            have HBW := Lib.hid hB
            by_cases hpa : n' = a
            · have e1 : ((n' : Int) == (a : Int)) = true := by simp; omega
              have HPA := Lib.hid hpa
              clear hnp hO hX hR hB hr hpa
              gi_wp2
              exact ⟨KeepsFrom.refl _ _, rfl, pre, x, rfl, by rw [HNP.out, HPA.out], A', n', c', HO.out, HR.out, HBW.out⟩
            · have e1 : ((n' : Int) == (a : Int)) = false := by simp; omega
              have hpl1 : n' + 1 ≤ a := by omega
              have Hsrc := Lib.hid (Src.oneR (P := Try.prog) W 25 42 Try.underlying25 (eiC x) rfl (eiC_one x) #[.string (st x.1), .int .i64 x.2.1, .int .i64 x.2.2] rfl 42)
              have hsz : W2.heap.size ≤ (W.alloc (.cells #[.string (st x.1), .int .i64 x.2.1, .int .i64 x.2.2] 42)).heap.size := by have := hB.size; simp; omega
              clear hnp hO hX hR hB hr hpa
              gi_wp2_with (gi_at_builtin; refine wpListIn_appendE entsElem rfl (.tmp 66) (.tmp 70) 25 rfl W2.heap.size A' n' c' pre rfl (HR.out.alloc _) _ rfl x Hsrc.out (by omega) (by omega) hsz ?_; intro A3 n3 c3 w3 hn3 hown3 hg3 hf3; have hbo := box_after HO.out HR.out (by decide) _ hg3; have y0 := hbo.cell 0 _ rfl; have yf := hbo.free 0; have HG3 := Lib.hid hg3; have HF3 := Lib.hid hf3; have HW3 := Lib.hid hown3; clear hbo hg3 hf3 hown3)
              obtain ⟨a1, a2, a3, a4⟩ := append_kp HO.out HR.out (by decide) _ HG3.out HF3.out n3 c3
              refine ⟨a1.from _, a2, ⟨A3, n3, c3, a3, ?_, ?_⟩, by rw [List.length_append, List.length_singleton, HNP.out]; exact hpl1⟩
              · exact Own.keepGI HW3.out a4 (fun b hb e => by
                  have e' : b = W2.heap.size := e
                  subst e'
                  rcases HF3.out with hA | ⟨b', hA, hb'⟩
                  · subst hA; exact HR.out.ne HO.out (by decide) hb
                  · subst hA
                    have : b' = W2.heap.size := by simpa [InBlk] using hb
                    have := HO.out.lt
                    simp at hb'
                    omega)
              · exact below_app HBW.out HR.out _ HG3.out a4
          case done =>
            rintro D xs W hD rfl ⟨h1, h2⟩ hK
            exact ⟨.inl rfl, D, hD, by rw [List.take_of_length_le h2]; exact h1, hK, rfl⟩
          case stop =>
            rintro D c pre W hD ⟨k', hk', hpre⟩ ⟨rfl, pr, x, hq, hpl, hI⟩ hK
            refine wpIn_exit ⟨.inr rfl, D, hD, ?_, hK, rfl⟩
            have : pr = es.take a := by
              rw [hpre] at hq
              have h1 := congrArg (List.take a) hq
              have hl := congrArg List.length hq
              have hr : List.take a (pr ++ [x]) = pr := by rw [← hpl]; simp
              rw [List.length_take, List.length_append, hpl, List.length_singleton] at hl
              rw [hr, List.take_take, Nat.min_eq_left (by omega)] at h1
              exact h1.symm
            rw [← this]
            exact hI
        case rest =>
          rintro D W6 hD ⟨Ag, ng, cg, hO, hR, hB⟩ hK
          have HT6 := Lib.hid (HT2.out.up hB)
          have HK6 := Lib.hid (HK2.out.up hB)
          have HO6 := Lib.hid hO
          have HR6 := Lib.hid hR
          have HB6 := Lib.hid hB
          have HDf := Lib.hid hK
          clear hO hR hB hK hcD hoB
          go_wp2_with fail
          refine (page_any w.heap.size A n c es 0 9 _ HT6.out.d.d (by omega)).mono ?_
          rintro e w7 ⟨Al, nl, cl, rfl, hol, hb7⟩
          obtain ⟨rows, hrows⟩ : ∃ r, r = (pageE es 0 9).1 := ⟨_, rfl⟩
          obtain ⟨pb, hpb⟩ : ∃ r, r = (pageE es 0 9).2.1 := ⟨_, rfl⟩
          obtain ⟨pe, hpe⟩ : ∃ r, r = (pageE es 0 9).2.2 := ⟨_, rfl⟩
          rw [← hrows] at hol
          rw [← hpb, ← hpe]
          have hnl8 : nl ≤ 8 := by
            have h1 := hol.len
            rw [List.length_map] at h1
            have h2 : rows.length ≤ es.length := by
              rw [hrows]; unfold pageE
              split
              · simp
              · rw [List.length_take, List.length_drop]; omega
            omega
          clear hrows hpb hpe
          have HAl := Lib.hid (show ∀ b, InBlk Al b → W6.heap.size ≤ b from fun b hb => (hol.inB b hb).1)
          have HOL := Lib.hid hol
          have HB7 := Lib.hid hb7
          have hnc : nl ≤ cl := hol.cap.1
          clear hol hb7
          go_wp2
          go_loopw [16] (fun x wr => StpJ W6 w7 Al nl cl x wr) (fun x _ => nl - (intOf x).toNat)
          case atStart => exact ⟨0, Nat.zero_le _, rfl, Lib.hid (Keeps.refl _ _), Lib.hid (fun h0 => by
            obtain ⟨g, tl, h1, h2, h3, h4⟩ := HOL.out.row (Nat.lt_of_lt_of_le h0 hnc)
            exact ⟨g, _, h1, h3, h4⟩)⟩
          case round =>
            obtain ⟨i, hi, rfl, hks, hrw⟩ := hrel
            by_cases hil : i < nl
            · have i1 : (i : Int) < nl := Int.ofNat_lt.2 hil
              have i0 : (0 : Int) ≤ i := Int.natCast_nonneg i
              obtain ⟨g, cs, hA, hrow, hcl⟩ := hrw.out (Nat.lt_of_le_of_lt (Nat.zero_le _) hil)
              subst hA
              have hlen : i * 3 < cs.length := by omega
              obtain ⟨u, hu⟩ : ∃ u, cs[i * 3]? = some u := ⟨_, List.getElem?_eq_getElem hlen⟩
              have d0 := hrow.cell (i * 3) u hu
              have df := hrow.free (i * 3) hlen
              have HROW := Lib.hid hrow
              have HCL := Lib.hid hcl
              have HKS := Lib.hid hks.out
              clear hrow hcl hks hrw hlen hu
              go_wp2
              go_roundw
              case rel => exact ⟨i + 1, hil, by go_num, Lib.hid (HKS.out.setCell (p := ⟨g, i * 3, none⟩) (.inl rfl) _), Lib.hid (fun _ => ⟨g, _, rfl, HROW.out.set _ _, by rw [List.length_set]; exact HCL.out⟩)⟩
              case measure => simp [intOf]; omega
            · obtain rfl : i = nl := by omega
              have hbw : Below W6.heap.size W6 wr := HB7.out.trans (hks.out.under HB7.out.size (fun j hj e => by have := HAl.out j e; omega))
              have HT8 := Lib.hid (HT6.out.up hbw)
              have HK8 := Lib.hid (HK6.out.up hbw)
              have HO8 := Lib.hid (HO6.out.up hbw)
              have HR8 := Lib.hid (HR6.out.up hbw)
              have HD8 := Lib.hid ((hbw.block D (Array.getElem?_eq_some_iff.1 HDf.out).1).trans HDf.out)
              clear hbw hks hrw
              go_wp2_with fail
              refine (lall_any w.heap.size A n c es _ HT8.out.d.d (by omega)).mono ?_
              rintro e w9 ⟨Ay, cy, rfl, hoy, hby⟩
              have HY9 := Lib.hid hoy.rd
              have HT9 := Lib.hid (HT8.out.up hby)
              have HK9 := Lib.hid (HK8.out.up hby)
              have HO9 := Lib.hid (HO8.out.up hby)
              have HR9 := Lib.hid (HR8.out.up hby)
              have HD9 := Lib.hid ((hby.block D (Array.getElem?_eq_some_iff.1 HD8.out).1).trans HD8.out)
              clear hoy hby
              go_upto_region 26 with fail
              have HT10 := Lib.hid (HT9.out.up (Below.refl w9.heap.size w9).drew)
              have HMM := Lib.hid (show ∀ m, m = min a nw → RdR w9.drew w9.drew.heap.size 3 Aw m ((es.take a).map eiC) from fun m hm => by
                have h1 : es.take a = es.take m := by
                  rcases Nat.le_total a nw with h | h
                  · rw [hm, Nat.min_eq_left h]
                  · rw [hm, Nat.min_eq_right h, HNW.out, List.take_of_length_le (Nat.le_refl _), List.take_of_length_le (by rw [← HNW.out]; exact h)]
                rw [h1, List.map_take]
                exact HT10.out.l.firstS (by omega))
              have hnwc : (nw : Int) ≤ cw := by have := HT9.out.nc; omega
              have a0 : (0 : Int) ≤ a := Int.natCast_nonneg a
              have nw0 : (0 : Int) ≤ nw := Int.natCast_nonneg nw
              have hwhich : ((a : Int) < nw ∧ (a : Int) ≤ cw) ∨ ¬ ((a : Int) < nw) := by
                by_cases h : (a : Int) < nw
                · exact .inl ⟨h, by omega⟩
                · exact .inr h
              have k0 := cell_abv (G := NoG) (HK9.out.drew.cell 0 _ rfl) id
              have o0 := cell_abv (G := NoG) (HO9.out.drew.cell 0 _ rfl) id
              rcases hwhich with ⟨hca, hac⟩ | hca
              all_goals
               refine wp_region_plan NoG [(0, false), (1, false), (2, false), (3, false), (4, false), (5, false), (6, false), (7, true), (8, false), (9, false), (10, false), (11, false), (12, false), (13, false), (14, true), (15, false), (16, false), (17, true), (18, false), (19, false)] (by kernel_rfl) (by kernel_rfl) ?_
               repeat (refine plan_take (by simp only [List.getElem?_toArray, List.getElem?_cons_succ, List.getElem?_cons_zero]; exact rfl) ?_; go_big_quiet_step (fail); refine wpQuiet_nil ?_)
               clear k0 o0
               refine plan_solo (by simp only [List.getElem?_toArray, List.getElem?_cons_succ, List.getElem?_cons_zero]; exact rfl) ?_
               have HY10 := Lib.hid (show RdR w9.drew w9.drew.heap.size 3 Ay n (es.map eiC) from HY9.out)
               go_wp2_with fail
               refine (same11_any Ag Aw ng _ cg cw (es.take a) (es.take a) _ HR9.out.drew.rd (HMM.out _ (by omega)) (by have := HR9.out.len; rw [List.length_map, List.length_take] at this; omega)).mono ?_
               rintro e w11 ⟨rfl, hb11⟩
               rw [show decide (es.take a = es.take a) = true by simp]
               have HB11 := Lib.hid hb11
               have HT11 := Lib.hid (HT10.out.up hb11)
               have HY11 := Lib.hid ((HY10.out.below hb11).more hb11.size)
               have HD11 := Lib.hid ((hb11.block D (Array.getElem?_eq_some_iff.1 HD9.out).1).trans HD9.out)
               clear hb11
               go_wp2
               refine Solo.up HB11.out ?_
               repeat (refine plan_take (by simp only [List.getElem?_toArray, List.getElem?_cons_succ, List.getElem?_cons_zero]; exact rfl) ?_; go_big_quiet_step (fail); refine wpQuiet_nil ?_)
               refine plan_solo (by simp only [List.getElem?_toArray, List.getElem?_cons_succ, List.getElem?_cons_zero]; exact rfl) ?_
               go_wp2_with fail
               refine (same11_any Ay Aw n nw cy cw es es _ HY11.out HT11.out.l (by omega)).mono ?_
               rintro e w12 ⟨rfl, hb12⟩
               rw [show decide (es = es) = true by simp]
               have HB12 := Lib.hid hb12
               have HB012 := Lib.hid (Up.trans' HT11.out.d.b hb12)
               have HD12 := Lib.hid ((hb12.block D (Array.getElem?_eq_some_iff.1 HD11.out).1).trans HD11.out)
               clear hb12
               go_wp2
               refine Solo.up HB12.out ?_
               repeat (refine plan_take (by simp only [List.getElem?_toArray, List.getElem?_cons_succ, List.getElem?_cons_zero]; exact rfl) ?_; go_big_quiet_step (fail); refine wpQuiet_nil ?_)
               refine plan_solo (by simp only [List.getElem?_toArray, List.getElem?_cons_succ, List.getElem?_cons_zero]; exact rfl) ?_
               go_wp2_with fail
               refine (lives11_any _).mono ?_
               rintro e w13 ⟨rfl, hb13⟩
               have HB13 := Lib.hid hb13
               have HB013 := Lib.hid (Up.trans' HB012.out hb13)
               have HD13 := Lib.hid ((hb13.block D (Array.getElem?_eq_some_iff.1 HD12.out).1).trans HD12.out)
               clear hb13
               go_wp2
               refine Solo.up HB13.out ?_
               repeat (refine plan_take (by simp only [List.getElem?_toArray, List.getElem?_cons_succ, List.getElem?_cons_zero]; exact rfl) ?_; go_big_quiet_step (fail); refine wpQuiet_nil ?_)
               refine plan_end ?_
               go_wp2
               refine ⟨by simp, .inl ⟨_, _, rfl, run_takeDeferred HD13.out, ?_⟩⟩
               exact ⟨_, results_tmp rfl _ _ _, rfl, HB013.out.trans (belowK_b (w := w) (Nat.le_refl _) w13 D _ _ (by have h1 := HT3.out.d.b.size; omega) HD13.out rfl rfl)⟩
end Go.Proofs.Ytoaemkbdfinaoaa
