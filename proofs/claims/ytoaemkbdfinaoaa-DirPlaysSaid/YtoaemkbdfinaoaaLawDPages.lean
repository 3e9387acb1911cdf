/-
  The law DirPages, walked.
-/
import Derived.Test.YtoaemkbdfinaoaaDirM
import Derived.Test.YtoaemkbdfinaoaaLawDRow
namespace Go.Proofs.Ytoaemkbdfinaoaa
open Go.RowKit
set_option linter.unusedVariables false
set_option linter.unusedSimpArgs false

/-- The directory and the reference's list hold the same entries; their memory lies apart. -/
structure Two11 (w0 w : World) (g : Nat) (A : Option Addr) (n c : Nat) (Aw : Option Addr) (nw cw : Nat) (es : List EntI) : Prop where
  d : DrIn w0 w g A n c es
  l : RdR w w.heap.size 3 Aw nw (es.map eiC)
  form : SlForm Aw nw cw
  nc : nw ≤ cw
  cm : cw ≤ maxLen
  apart : ∀ b, InBlk Aw b → b < w.heap.size ∧ b ≠ g ∧ ¬ InBlk A b
theorem Two11.up {w0 w w' : World} {g n c nw cw : Nat} {A Aw : Option Addr} {es : List EntI} (h : Two11 w0 w g A n c Aw nw cw es) (k : Below w.heap.size w w') : Two11 w0 w' g A n c Aw nw cw es :=
  { h with d := h.d.up k, l := (h.l.below k).more k.size, apart := fun b hb => ⟨Nat.lt_of_lt_of_le (h.apart b hb).1 k.size, (h.apart b hb).2⟩ }
/-- The list is another one. -/
theorem Two11.list {w0 w w' : World} {g n c nw cw nw' cw' : Nat} {A Aw Aw' : Option Addr} {es es' : List EntI} (h : Two11 w0 w g A n c Aw nw cw es) (k : Below w.heap.size w w') (hl : RdR w' w'.heap.size 3 Aw' nw' (es'.map eiC)) (hf : SlForm Aw' nw' cw') (h1 : nw' ≤ cw') (h2 : cw' ≤ maxLen)
    (ha : Aw' = Aw ∨ ∀ b, InBlk Aw' b → w.heap.size ≤ b ∧ b < w'.heap.size) : DrIn w0 w' g A n c es ∧ ∀ b, InBlk Aw' b → b < w'.heap.size ∧ b ≠ g ∧ ¬ InBlk A b := by
  refine ⟨h.d.up k, fun b hb => ?_⟩
  rcases ha with rfl | ha
  · exact ⟨Nat.lt_of_lt_of_le (h.apart b hb).1 k.size, (h.apart b hb).2⟩
  · obtain ⟨a1, a2⟩ := ha b hb
    exact ⟨a2, fun e => by have := h.d.d.b.lt; omega, fun e => by have := h.d.d.in_lt b e; omega⟩
/-- Both have put. -/
theorem Two11.put {w0 w w' : World} {g n c nw cw : Nat} {A Aw : Option Addr} {es es' : List EntI} (hd : DrIn w0 w g A n c es) (hl : RdR w w.heap.size 3 Aw nw (es'.map eiC)) (hf : SlForm Aw nw cw) (h1 : nw ≤ cw) (h2 : cw ≤ maxLen) (ha : ∀ b, InBlk Aw b → b < w.heap.size ∧ b ≠ g ∧ ¬ InBlk A b) (p : DrPost g A es' w w') :
    ∃ A' n' c', Two11 w0 w' g A' n' c' Aw nw cw es' := by
  obtain ⟨A', n', c', hd', hk, hf'⟩ := hd.post p
  refine ⟨A', n', c', hd', RdR.keepB hl hk (fun b hb e => ?_), hf, h1, h2, fun b hb => ⟨Nat.lt_of_lt_of_le (ha b hb).1 hk.size, (ha b hb).2.1, fun e => ?_⟩⟩
  · rcases e with e | e
    · exact (ha b hb).2.1 e
    · exact (ha b hb).2.2 e
  · rcases hf' with rfl | ⟨b', rfl, hb'⟩
    · exact (ha b hb).2.2 e
    · have : b' = b := by simpa [InBlk] using e
      have := (ha b hb).1
      omega
def DpgJ (w : World) (g k : Nat) (y x : Value) (wr : World) : Prop :=
  ∃ (j : Nat) (A : Option Addr) (n c : Nat) (Aw : Option Addr) (nw cw : Nat) (es : List EntI), j ≤ k ∧ x = .int .i64 j ∧ y = .slice Aw nw cw ∧ es.length ≤ j ∧ Two11 w wr g A n c Aw nw cw es
def PgsJ (es : List EntI) (W : World) (y x : Value) (wr : World) : Prop :=
  ∃ (i q : Nat) (Ag : Option Addr) (ng cg : Nat), x = .int .i64 i ∧ y = .slice Ag ng cg ∧ OwR wr W.heap.size 42 3 Ag ng cg ((es.take q).map eiC) ∧ Below W.heap.size W wr ∧ i ≤ q ∧ q ≤ es.length ∧ (q < es.length ∨ i = 0)
theorem take_page (es : List EntI) (q m : Nat) : es.take q ++ (es.drop q).take m = es.take (q + m) := by rw [List.take_add]
theorem entN_bad : True := trivial

set_option maxRecDepth 100000 in
set_option maxHeartbeats 8000000 in
theorem dirPages_walk (A0 : Option Addr) (n0 c0 : Nat) (zs : List Int) (A1 : Option Addr) (n1 c1 : Nat) (ys : List Int) (w : World) (h : RdV w w.heap.size A0 n0 (kv .i64 zs)) (hz : ∀ z ∈ zs, -9223372036854775808 ≤ z ∧ z ≤ 9223372036854775807) (hn : n0 ≤ 9223372036854775807) (h1 : RdV w w.heap.size A1 n1 (kv .i64 ys)) (hz1 : ∀ z ∈ ys, -9223372036854775808 ≤ z ∧ z ≤ 9223372036854775807) (hn1 : n1 ≤ 9223372036854775807) :
    Calls Try.prog 3 #[.slice A0 n0 c0, .slice A1 n1 c1] w fun e w' => e = .returned (.bool true) ∧ Below w.heap.size w w' := by
  have H := Lib.hid h
  have HZ := Lib.hid hz
  have HY := Lib.hid h1
  have HYZ := Lib.hid hz1
  clear h hz h1 hz1
  go_enter Try.func3, Try.ntmps3
  go_wp2_with fail
  refine (new_any _).mono ?_
  rintro e w1 ⟨rfl, hd1, hb1⟩
  have H1 := Lib.hid (DrIn.new hd1 (Below.refl _ _) hb1)
  clear hd1 hb1
  obtain ⟨k, hk10, hkn, hkk⟩ : ∃ k : Nat, k ≤ 10 ∧ k ≤ n0 ∧ Hid (k = 10 ∨ k = n0) := by
    by_cases h : 10 ≤ n0
    · exact ⟨10, by omega, h, Lib.hid (.inl rfl)⟩
    · exact ⟨n0, by omega, by omega, Lib.hid (.inr rfl)⟩
  go_wp2
  go_loopw [6, 7] (fun y x wr => DpgJ w w.heap.size k y x wr) (fun _ x _ => k - (intOf x).toNat)
  case atStart => exact ⟨0, none, 0, 0, none, 0, 0, [], by omega, rfl, rfl, Nat.le_refl _, ⟨H1.out, ⟨by simp, rfl, fun h => absurd h (by omega)⟩, .inl ⟨rfl, rfl, rfl⟩, Nat.le_refl _, Nat.zero_le _, fun b e => by cases e⟩⟩
  case round =>
    obtain ⟨j, A, n, c, Aw, nw, cw, es, hj, rfl, rfl, hes, ht⟩ := hrel
    have HNW := Lib.hid (show nw = es.length by have := ht.l.len; simpa using this.symm)
    have HND := Lib.hid (show n = es.length from ht.d.d.len.symm)
    have hnwl : nw ≤ 10 := Nat.le_trans (Nat.le_of_eq HNW.out) (Nat.le_trans hes (Nat.le_trans hj hk10))
    have hnl : n ≤ 10 := Nat.le_trans (Nat.le_of_eq HND.out) (Nat.le_trans hes (Nat.le_trans hj hk10))
    have hel : es.length ≤ 10 := Nat.le_trans hes (Nat.le_trans hj hk10)
    by_cases hlt : j < k
    · have j1 : (j : Int) < n0 := Int.ofNat_lt.2 (Nat.lt_of_lt_of_le hlt hkn)
      have j0 : (0 : Int) ≤ j := Int.natCast_nonneg j
      have j2 : (j : Int) < 10 := Int.ofNat_lt.2 (Nat.lt_of_lt_of_le hlt hk10)
      obtain ⟨b, off, z, hA, hz, hc⟩ := int_at (H.out.below ht.d.b) (show j < n0 from Nat.lt_of_lt_of_le hlt hkn)
      subst hA
      obtain ⟨zl, zu⟩ := HZ.out z (List.mem_of_getElem? hz)
      have HT := Lib.hid ht
      clear ht hz
      go_wp2_with fail
      refine (of_small z _ zl zu).mono ?_
      rintro e w3 ⟨rfl, hb3⟩
      have HT3 := Lib.hid (HT.out.up hb3)
      have o1 : (ofW z).length ≤ 32 := (ofW_ok z).2
      clear hc hb3
      go_wp2_with fail
      refine (refPut_any Aw nw cw es (ofW z) j 0 _ HT3.out.l HT3.out.form HT3.out.nc HT3.out.cm (by omega) (by omega)).mono ?_
      rintro e w4 ⟨Aw', nw', cw', rfl, hl', hf', hn', hc', ha', hb4⟩
      obtain ⟨hd4, hap4⟩ := HT3.out.list hb4 hl' hf' hn' hc' ha'
      have HD4 := Lib.hid hd4
      have HL4 := Lib.hid hl'
      have HF4 := Lib.hid hf'
      have HA4 := Lib.hid hap4
      clear hl' hf' ha' hb4 hd4 hap4
      go_wp2_with fail
      refine (put_any w.heap.size A n c es (ofW z) j 0 _ HD4.out.d (by omega) (by omega)).mono ?_
      rintro e w5 ⟨rfl, hp⟩
      obtain ⟨A', n', c', ht5⟩ := Two11.put HD4.out HL4.out HF4.out hn' hc' HA4.out hp
      have HT5 := Lib.hid ht5
      have hlen := putE_len es (ofW z) j 0
      clear hp ht5
      obtain ⟨er, her⟩ : ∃ er, er = (putE es (ofW z) j 0).2 := ⟨_, rfl⟩
      rw [← her]
      have tt : (er != er) = false := by simp
      clear her
      go_wp2
      go_roundw
      case rel => exact ⟨j + 1, A', n', c', Aw', nw', cw', _, by omega, by go_num, rfl, by omega, HT5.out⟩
      case measure => simp [intOf]; omega
    · obtain rfl : j = k := by omega
      have HT := Lib.hid ht
      have hes10 : es.length ≤ 10 := by omega
      clear ht
      have hkk := hkk.out
      have hnw := HNW.out
      have hnd := HND.out
      have hstop : ¬ ((j : Int) < n0) ∨ ((j : Int) < n0 ∧ ¬ ((j : Int) < 10)) := by
        by_cases h1 : (j : Int) < n0
        · exact .inr ⟨h1, by omega⟩
        · exact .inl h1
      clear hkk hnw hnd
      obtain ⟨W0, rfl⟩ : ∃ W0, W0 = wr := ⟨_, rfl⟩
      rcases hstop with h1 | ⟨h1, h2⟩
      all_goals
        go_wp2
        go_loopw [11, 12] (fun y x W => PgsJ es W0 y x W) (fun _ x _ => 13 - (intOf x).toNat)
        case atStart => exact ⟨0, 0, none, 0, 0, rfl, rfl, by rw [List.take_zero]; exact OwR.nil _ _ _ _, Below.refl _ _, Nat.le_refl _, Nat.zero_le _, .inr rfl⟩
        case round =>
          obtain ⟨i, q, Ag, ng, cg, rfl, rfl, hgo, hbw, hiq, hql, hor⟩ := hrel
          have hng : ng = q := by have := hgo.len; rw [List.length_map, List.length_take] at this; omega
          subst hng
          have i12 : (i : Int) < 12 := by omega
          have i0 : (0 : Int) ≤ i := by omega
          have HGO := Lib.hid hgo
          have HBW := Lib.hid hbw
          have HT2 := Lib.hid (HT.out.up hbw)
          clear hgo hbw
          by_cases hsz : i < n1
          · have s1 : (i : Int) < n1 := by omega
            obtain ⟨b', off', y, hA', hy, hc'⟩ := int_at ((HY.out.below HT2.out.d.b)) hsz
            subst hA'
            obtain ⟨yl, yu⟩ := HYZ.out y (List.mem_of_getElem? hy)
            clear hy
            go_wp2_with fail
            refine (around_any y 4 _ yl yu (by omega) (by omega)).mono ?_
            rintro e w5 ⟨a, _, ha4, rfl, rfl⟩
            clear hc'
            obtain ⟨m, hm⟩ : ∃ m, m = 1 + a := ⟨_, rfl⟩
            have hm1 : 1 ≤ m ∧ m ≤ 4 := by omega
            have ma : (1 : Int) + a = m := by omega
            clear hm
            go_wp2_with fail
            refine (page_any w.heap.size A n c es ng m _ HT2.out.d.d (by omega)).mono ?_
            rintro e w6 ⟨Al, nl, cl, rfl, hol, hb6⟩
            have hpe : pageE es ng m = ((es.drop ng).take m, decide ((ng : Int) + ((es.drop ng).take m).length = es.length), 0) := by
              unfold pageE
              rw [if_neg (by omega), Int.toNat_natCast]
              rfl
            rw [hpe] at hol ⊢
            have hll : ((es.drop ng).take m).length = nl := by have := hol.len; simpa using this
            have hlm : nl ≤ m ∧ nl ≤ es.length - ng ∧ (nl = m ∨ nl = es.length - ng) := by rw [List.length_take, List.length_drop] at hll; omega
            have HLR := Lib.hid hol.rd
            have HGO6 := Lib.hid (HGO.out.up hb6)
            have HB6 := Lib.hid (Up.trans' HBW.out hb6)
            have HLL := Lib.hid hll
            obtain ⟨b, hb⟩ : ∃ b, b = decide ((ng : Int) + ((es.drop ng).take m).length = es.length) := ⟨_, rfl⟩
            rw [← hb]
            rw [hll] at hb
            have HBB := Lib.hid hb
            have Hsrc := Lib.hid (hol.rd.src (P := Try.prog) (c := cl) (by omega) 25 42 Try.underlying25 (fun r hr => by obtain ⟨e, _, rfl⟩ := List.mem_map.1 hr; exact eiC_one e))
            have hsz6 : W0.heap.size ≤ w6.heap.size := HB6.out.size
            clear hol hb6 hpe hb hll
            go_upto_region 22 with (at_builtin; go_must (refine wpList_appendEs entsElem rfl (.tmp 74) (.tmp 75) 25 rfl W0.heap.size Ag ng cg (es.take ng) rfl HGO6.out _ rfl nl ((es.drop ng).take m) HLL.out Hsrc.out (by omega) (by omega) hsz6 ?_); intro A7 n7 c7 w7 hn7 hown7 hg7 hf7 hb7; simp only [Act.put, List.setIfInBounds_toArray, List.set_cons_succ, List.set_cons_zero])
            have hn7' := hn7.out
            rw [take_page] at hown7
            have hcut : es.take (ng + m) = es.take (ng + nl) := by
              rcases hlm.2.2 with e | e
              · rw [e]
              · rw [List.take_of_length_le (by omega), List.take_of_length_le (by omega)]
            rw [hcut] at hown7
            have HO7 := Lib.hid hown7
            have HB7 := Lib.hid (HB6.out.trans hb7)
            have hl2 : ¬ ((m : Nat) : Int) < nl := by omega
            have hl3 : ¬ (m < nl) := by omega
            have hnw := HNW.out
            clear hown7 hg7 hf7 hb7 hcut hn7
            by_cases hend : n7 = nw
            · have hbt : b = true := by rw [HBB.out]; exact decide_eq_true (by omega)
              have hel2 : ng + nl = es.length := by omega
              have hn10 : n7 ≤ 10 := by omega
              subst hbt
              have HES := Lib.hid (show es.take (ng + nl) = es from List.take_of_length_le (by omega))
              have HT7 := Lib.hid (HT.out.up HB7.out)
              clear hnw hn7' hel2 hlm
              subst hend
              go_wp2_with fail
              refine (same11_any A7 Aw n7 n7 c7 cw (es.take (ng + nl)) es _ HO7.out.rd HT7.out.l (by omega)).mono ?_
              rintro e w8 ⟨rfl, hb8⟩
              rw [show decide (es.take (ng + nl) = es) = true from decide_eq_true HES.out]
              have HB8 := Lib.hid (Up.trans' HT7.out.d.b hb8)
              clear hb8
              go_wp2_with fail
              refine (lives11_any _).mono ?_
              rintro e w9 ⟨rfl, hb9⟩
              go_wp2
              go_ret
              exact ⟨rfl, Up.trans' HB8.out hb9⟩
            · have hbt : b = false := by rw [HBB.out]; exact decide_eq_false (by omega)
              have e1 : ((n7 : Int) == (nw : Int)) = false := by simp; omega
              have hq1 : i + 1 ≤ n7 := by omega
              have hq2 : n7 ≤ es.length := by omega
              have hq3 : n7 < es.length := by omega
              have HN7 := Lib.hid hn7'
              subst hbt
              clear hnw hn7' hlm
              go_wp2
              go_roundw
              case rel => exact ⟨i + 1, n7, A7, n7, c7, by go_num, rfl, by have := HO7.out; rw [← HN7.out] at this; exact this, HB7.out, hq1, hq2, .inl hq3⟩
              case measure => simp [intOf]; omega
          · have s1 : ¬ (i : Int) < n1 := by omega
            go_wp2_with fail
            refine (page_any w.heap.size A n c es ng 2 _ HT2.out.d.d (by omega)).mono ?_
            rintro e w6 ⟨Al, nl, cl, rfl, hol, hb6⟩
            have hpe : pageE es ng 2 = ((es.drop ng).take 2, decide ((ng : Int) + ((es.drop ng).take 2).length = es.length), 0) := by
              unfold pageE
              rw [if_neg (by omega), Int.toNat_natCast]
              rfl
            rw [hpe] at hol ⊢
            have hll : ((es.drop ng).take 2).length = nl := by have := hol.len; simpa using this
            have hlm : nl ≤ 2 ∧ nl ≤ es.length - ng ∧ (nl = 2 ∨ nl = es.length - ng) := by rw [List.length_take, List.length_drop] at hll; omega
            have HLR := Lib.hid hol.rd
            have HGO6 := Lib.hid (HGO.out.up hb6)
            have HB6 := Lib.hid (Up.trans' HBW.out hb6)
            have HLL := Lib.hid hll
            obtain ⟨b, hb⟩ : ∃ b, b = decide ((ng : Int) + ((es.drop ng).take 2).length = es.length) := ⟨_, rfl⟩
            rw [← hb]
            rw [hll] at hb
            have HBB := Lib.hid hb
            have Hsrc := Lib.hid (hol.rd.src (P := Try.prog) (c := cl) (by omega) 25 42 Try.underlying25 (fun r hr => by obtain ⟨e, _, rfl⟩ := List.mem_map.1 hr; exact eiC_one e))
            have hsz6 : W0.heap.size ≤ w6.heap.size := HB6.out.size
            clear hol hb6 hpe hb hll
            go_upto_region 22 with (at_builtin; go_must (refine wpList_appendEs entsElem rfl (.tmp 74) (.tmp 75) 25 rfl W0.heap.size Ag ng cg (es.take ng) rfl HGO6.out _ rfl nl ((es.drop ng).take 2) HLL.out Hsrc.out (by omega) (by omega) hsz6 ?_); intro A7 n7 c7 w7 hn7 hown7 hg7 hf7 hb7; simp only [Act.put, List.setIfInBounds_toArray, List.set_cons_succ, List.set_cons_zero])
            have hn7' := hn7.out
            rw [take_page] at hown7
            have hcut : es.take (ng + 2) = es.take (ng + nl) := by
              rcases hlm.2.2 with e | e
              · rw [e]
              · rw [List.take_of_length_le (by omega), List.take_of_length_le (by omega)]
            rw [hcut] at hown7
            have HO7 := Lib.hid hown7
            have HB7 := Lib.hid (HB6.out.trans hb7)
            have hl2 : ¬ (2 : Int) < nl := by omega
            have hl3 : ¬ (2 < nl) := by omega
            have hnw := HNW.out
            clear hown7 hg7 hf7 hb7 hcut hn7
            by_cases hend : n7 = nw
            · have hbt : b = true := by rw [HBB.out]; exact decide_eq_true (by omega)
              have hel2 : ng + nl = es.length := by omega
              have hn10 : n7 ≤ 10 := by omega
              subst hbt
              have HES := Lib.hid (show es.take (ng + nl) = es from List.take_of_length_le (by omega))
              have HT7 := Lib.hid (HT.out.up HB7.out)
              clear hnw hn7' hel2 hlm
              subst hend
              go_wp2_with fail
              refine (same11_any A7 Aw n7 n7 c7 cw (es.take (ng + nl)) es _ HO7.out.rd HT7.out.l (by omega)).mono ?_
              rintro e w8 ⟨rfl, hb8⟩
              rw [show decide (es.take (ng + nl) = es) = true from decide_eq_true HES.out]
              have HB8 := Lib.hid (Up.trans' HT7.out.d.b hb8)
              clear hb8
              go_wp2_with fail
              refine (lives11_any _).mono ?_
              rintro e w9 ⟨rfl, hb9⟩
              go_wp2
              go_ret
              exact ⟨rfl, Up.trans' HB8.out hb9⟩
            · have hbt : b = false := by rw [HBB.out]; exact decide_eq_false (by omega)
              have e1 : ((n7 : Int) == (nw : Int)) = false := by simp; omega
              have hq1 : i + 1 ≤ n7 := by omega
              have hq2 : n7 ≤ es.length := by omega
              have hq3 : n7 < es.length := by omega
              have HN7 := Lib.hid hn7'
              subst hbt
              clear hnw hn7' hlm
              go_wp2
              go_roundw
              case rel => exact ⟨i + 1, n7, A7, n7, c7, by go_num, rfl, by have := HO7.out; rw [← HN7.out] at this; exact this, HB7.out, hq1, hq2, .inl hq3⟩
              case measure => simp [intOf]; omega
end Go.Proofs.Ytoaemkbdfinaoaa
