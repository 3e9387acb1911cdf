/-
  The law DirPlays, walked.
-/
import Derived.Test.YtoaemkbdfinaoaaDirR
import Derived.Test.YtoaemkbdfinaoaaDirIn
import Derived.Test.YtoaemkbdfinaoaaLawDPages
namespace Go.Proofs.Ytoaemkbdfinaoaa
open Go.RowKit
set_option linter.unusedVariables false
set_option linter.unusedSimpArgs false

theorem setE_len (es : List EntI) (s : List UInt8) (i g : Int) : (setE es s i g).1.length = es.length := by
  unfold setE; split <;> simp
theorem dropE_len (es : List EntI) (s : List UInt8) : (dropE es s).1.length ≤ es.length := by
  unfold dropE; split
  · show (delE es (posN es s)).length ≤ _
    unfold delE; rw [List.length_append, List.length_take, List.length_drop]; omega
  · exact Nat.le_refl _
theorem pageE_len (es : List EntI) (f m : Int) : (pageE es f m).1.length ≤ es.length := by
  unfold pageE; split
  · simp
  · show (((es.drop f.toNat).take m.toNat)).length ≤ _
    rw [List.length_take, List.length_drop]; omega
theorem nil_rd (w : World) : RdR w w.heap.size 3 none 0 (([] : List EntI).map eiC) := ⟨by simp, rfl, fun h => absurd h (by omega)⟩

set_option maxRecDepth 100000 in
set_option maxHeartbeats 16000000 in
theorem dirPlays_walk (A0 : Option Addr) (n0 c0 : Nat) (w : World) (h : DoArg w w.heap.size A0 n0) (hn : n0 ≤ 9223372036854775807) :
    Calls Try.prog 7 #[.slice A0 n0 c0] w fun e w' => e = .returned (.bool true) ∧ Below w.heap.size w w' := by
  have gT : Try.prog.eqGuardType Try.prog.depth 31 = false := by kernel_rfl
  have sT : Try.prog.stoodInHeld 31 = false := by kernel_rfl
  have H := Lib.hid h
  clear h
  go_enter Try.func7, Try.ntmps7
  go_wp2_with fail
  refine (new_any _).mono ?_
  rintro e w1 ⟨rfl, hd1, hb1⟩
  have H1 := Lib.hid (DrIn.new hd1 (Below.refl _ _) hb1)
  clear hd1 hb1
  obtain ⟨k, hk24, hkn, hkk⟩ : ∃ k : Nat, k ≤ 24 ∧ k ≤ n0 ∧ Hid (k = 24 ∨ k = n0) := by
    by_cases h : 24 ≤ n0
    · exact ⟨24, by omega, h, Lib.hid (.inl rfl)⟩
    · exact ⟨n0, by omega, by omega, Lib.hid (.inr rfl)⟩
  go_wp2
  go_loopw [4, 5] (fun y x wr => DpgJ w w.heap.size k y x wr) (fun _ x _ => k - (intOf x).toNat)
  case atStart => exact ⟨0, none, 0, 0, none, 0, 0, [], by omega, rfl, rfl, Nat.le_refl _, ⟨H1.out, ⟨by simp, rfl, fun h => absurd h (by omega)⟩, .inl ⟨rfl, rfl, rfl⟩, Nat.le_refl _, Nat.zero_le _, fun b e => by cases e⟩⟩
  case round =>
    obtain ⟨j, A, n, c, Aw, nw, cw, es, hj, rfl, rfl, hes, ht⟩ := hrel
    have HNW := Lib.hid (show nw = es.length by have := ht.l.len; simpa using this.symm)
    have HND := Lib.hid (show n = es.length from ht.d.d.len.symm)
    have hnwl : nw ≤ 24 := Nat.le_trans (Nat.le_of_eq HNW.out) (Nat.le_trans hes (Nat.le_trans hj hk24))
    have hnl : n ≤ 24 := Nat.le_trans (Nat.le_of_eq HND.out) (Nat.le_trans hes (Nat.le_trans hj hk24))
    by_cases hlt : j < k
    · have j1 : (j : Int) < n0 := Int.ofNat_lt.2 (Nat.lt_of_lt_of_le hlt hkn)
      have j0 : (0 : Int) ≤ j := Int.natCast_nonneg j
      have j2 : (j : Int) < 24 := Int.ofNat_lt.2 (Nat.lt_of_lt_of_le hlt hk24)
      have j24 : j + 1 ≤ 24 := Nat.le_trans hlt hk24
      obtain ⟨b, off, o, hA, hbl, hc, hok⟩ := (H.out.up ht.d.b) j (Nat.lt_of_lt_of_le hlt hkn)
      subst hA
      obtain ⟨dd, on, os, ohi, ohg, ofr, omo⟩ := o
      have d0 := hc 0 _ rfl
      have d1 := hc 1 _ rfl
      have d2 := hc 2 _ rfl
      have d3 := hc 3 _ rfl
      have d4 := hc 4 _ rfl
      have d5 := hc 5 _ rfl
      have d6 := hc 6 _ rfl
      simp only [Nat.add_zero] at d0
      have HT := Lib.hid ht
      have HOK := Lib.hid hok
      clear ht hc hbl hok
      go_upto_region 9 with fail
      obtain ⟨W, hW⟩ : ∃ W, W = wr.alloc (.cells #[.int .i64 dd, .int .i64 on, .string (st os), .int .i64 ohi, .int .i64 ohg, .int .i64 ofr, .int .i64 omo] 56) := ⟨_, rfl⟩
      rw [← hW]
      have hB : Blk W wr.heap.size 56 (doC ⟨dd, on, os, ohi, ohg, ofr, omo⟩) := by rw [hW]; exact Blk.new wr _ (doC ⟨dd, on, os, ohi, ohg, ofr, omo⟩)
      have hT1 := HT.out.up (show Below wr.heap.size wr W by rw [hW]; exact (Below.refl _ _).alloc (Nat.le_refl _) _)
      obtain ⟨B0, hB0⟩ : ∃ B0, B0 = wr.heap.size := ⟨_, rfl⟩
      rw [← hB0] at hB ⊢
      clear hW d0 d1 d2 d3 d4 d5 d6 hB0
      have o0 := hB.cell 0 _ rfl
      have o1 := hB.cell 1 _ rfl
      have o2 := hB.cell 2 _ rfl
      have o3 := hB.cell 3 _ rfl
      have o4 := hB.cell 4 _ rfl
      have o5 := hB.cell 5 _ rfl
      have o6 := hB.cell 6 _ rfl
      have HT1 := Lib.hid hT1
      have HB := Lib.hid hB
      clear hT1 hB
      go_wp2_with fail
      refine (text_any dd on os ohi ohg ofr omo _ HOK.out.s1 HOK.out.n0 HOK.out.n1).mono ?_
      rintro e w2 ⟨t, htl, rfl, hb2⟩
      have HT2 := Lib.hid (HT1.out.up hb2)
      have HB2 := Lib.hid (HB.out.up hb2)
      have o0 := HB2.out.cell 0 _ rfl
      have o1 := HB2.out.cell 1 _ rfl
      have o3 := HB2.out.cell 3 _ rfl
      have o4 := HB2.out.cell 4 _ rfl
      have o5 := HB2.out.cell 5 _ rfl
      have o6 := HB2.out.cell 6 _ rfl
      clear hb2
      go_wp2_with fail
      refine (around_any dd 10 _ HOK.out.d0 HOK.out.d1 (by omega) (by omega)).mono ?_
      rintro e w3 ⟨q, _, hq10, rfl, rfl⟩
      rcases (show q ≤ 3 ∨ q = 4 ∨ q = 5 ∨ q = 6 ∨ (q = 7 ∨ q = 8) ∨ q = 9 by omega) with hq | hq | hq | hq | hq | hq
      · have t4 : ((q : Int) == 4) = false := by simp; omega
        have t5 : ((q : Int) == 5) = false := by simp; omega
        have t6 : ((q : Int) == 6) = false := by simp; omega
        have t7 : ((q : Int) == 7) = false := by simp; omega
        have t8 : ((q : Int) == 8) = false := by simp; omega
        have t9 : ((q : Int) == 9) = false := by simp; omega
        clear hq hq10

        as_aux_lemma =>
          go_wp2_with fail
          refine (refPut_any Aw nw cw es t ohi ohg _ HT2.out.l HT2.out.form HT2.out.nc HT2.out.cm (by omega) (by omega)).mono ?_
          rintro e w4 ⟨Aw', nw', cw', rfl, hl', hf', hn', hc', ha', hb4⟩
          obtain ⟨hd4, hap4⟩ := HT2.out.list hb4 hl' hf' hn' hc' ha'
          have HD4 := Lib.hid hd4
          have HL4 := Lib.hid hl'
          have HF4 := Lib.hid hf'
          have HA4 := Lib.hid hap4
          have HB4 := Lib.hid (HB2.out.up hb4)
          have o3 := HB4.out.cell 3 _ rfl
          have o4 := HB4.out.cell 4 _ rfl
          clear hl' hf' ha' hb4 hd4 hap4
          go_wp2_with fail
          refine (put_any w.heap.size A n c es t ohi ohg _ HD4.out.d (by omega) (by omega)).mono ?_
          rintro e w5 ⟨rfl, hp⟩
          obtain ⟨A', n', c', ht5⟩ := Two11.put HD4.out HL4.out HF4.out hn' hc' HA4.out hp
          have hlen := putE_len es t ohi ohg
          clear hp o0 o1 o3 o4 o5 o6
          obtain ⟨R, hR⟩ : ∃ R, R = putE es t ohi ohg := ⟨_, rfl⟩
          rw [← hR] at ht5 hlen ⊢
          have HT5 := Lib.hid ht5
          clear ht5 hR
          obtain ⟨es', er⟩ := R
          have HLEN := Lib.hid (show es'.length ≤ j + 1 from Nat.le_trans hlen (by omega))
          have tt : (er != er) = false := by simp
          clear hlen
          have HLA := Lib.hid (show nw' = n' by have h1 := HT5.out.l.len; rw [List.length_map] at h1; have h2 := HT5.out.d.d.len; omega)
          have hn24 : n' ≤ 24 := by have h2 : (es').length = n' := HT5.out.d.d.len; have h3 : (es').length ≤ j + 1 := HLEN.out; omega
          have hnn : ((n' : Int) != nw') = false := by have h5 := HLA.out; simp <;> omega
          go_wp2_with fail
          refine (lall_any w.heap.size A' n' c' es' _ HT5.out.d.d (by omega)).mono ?_
          rintro e w6 ⟨Ax, cx, rfl, hox, hbx⟩
          have HX := Lib.hid hox.rd
          have HT6 := Lib.hid (HT5.out.up hbx)
          clear hox hbx
          go_wp2_with fail
          refine (same11_any Ax Aw' n' nw' cx cw' es' es' _ HX.out HT6.out.l (by omega)).mono ?_
          rintro e w7 ⟨rfl, hb7⟩
          rw [show decide (es' = es') = true by simp]
          have HT7 := Lib.hid (HT6.out.up hb7)
          clear hb7
          go_wp2_with fail
          refine (len_any w.heap.size A' n' c' es' _ HT7.out.d.d).mono ?_
          rintro e w8 ⟨rfl, rfl⟩
          go_wp2
          go_roundw
          case rel => exact ⟨j + 1, A', n', c', Aw', nw', cw', es', by omega, by go_num, rfl, HLEN.out, HT7.out⟩
          case measure => simp [intOf]; omega
      · have t4 : ((q : Int) == 4) = true := by simp; omega
        clear hq hq10

        as_aux_lemma =>
          go_wp2_with fail
          refine (refSet_any Aw nw cw es t ohi ohg _ HT2.out.l HT2.out.form HT2.out.nc HT2.out.cm (by omega) HT2.out.d.d.s).mono ?_
          rintro e w4 ⟨Aw', nw', cw', rfl, hl', hf', hn', hc', ha', hb4⟩
          obtain ⟨hd4, hap4⟩ := HT2.out.list hb4 hl' hf' hn' hc' ha'
          have HD4 := Lib.hid hd4
          have HL4 := Lib.hid hl'
          have HF4 := Lib.hid hf'
          have HA4 := Lib.hid hap4
          have HB4 := Lib.hid (HB2.out.up hb4)
          have o3 := HB4.out.cell 3 _ rfl
          have o4 := HB4.out.cell 4 _ rfl
          clear hl' hf' ha' hb4 hd4 hap4
          go_wp2_with fail
          refine (dirSet_any w.heap.size A n c es t ohi ohg _ HD4.out.d (by omega)).mono ?_
          rintro e w5 ⟨rfl, hp⟩
          obtain ⟨A', n', c', ht5⟩ := Two11.put HD4.out HL4.out HF4.out hn' hc' HA4.out hp
          have hlen := Nat.le_of_eq (setE_len es t ohi ohg)
          clear hp o0 o1 o3 o4 o5 o6
          obtain ⟨R, hR⟩ : ∃ R, R = setE es t ohi ohg := ⟨_, rfl⟩
          rw [← hR] at ht5 hlen ⊢
          have HT5 := Lib.hid ht5
          clear ht5 hR
          obtain ⟨es', er⟩ := R
          have HLEN := Lib.hid (show es'.length ≤ j + 1 from Nat.le_trans hlen (by omega))
          have tt : (er != er) = false := by simp
          clear hlen
          have HLA := Lib.hid (show nw' = n' by have h1 := HT5.out.l.len; rw [List.length_map] at h1; have h2 := HT5.out.d.d.len; omega)
          have hn24 : n' ≤ 24 := by have h2 : (es').length = n' := HT5.out.d.d.len; have h3 : (es').length ≤ j + 1 := HLEN.out; omega
          have hnn : ((n' : Int) != nw') = false := by have h5 := HLA.out; simp <;> omega
          go_wp2_with fail
          refine (lall_any w.heap.size A' n' c' es' _ HT5.out.d.d (by omega)).mono ?_
          rintro e w6 ⟨Ax, cx, rfl, hox, hbx⟩
          have HX := Lib.hid hox.rd
          have HT6 := Lib.hid (HT5.out.up hbx)
          clear hox hbx
          go_wp2_with fail
          refine (same11_any Ax Aw' n' nw' cx cw' es' es' _ HX.out HT6.out.l (by omega)).mono ?_
          rintro e w7 ⟨rfl, hb7⟩
          rw [show decide (es' = es') = true by simp]
          have HT7 := Lib.hid (HT6.out.up hb7)
          clear hb7
          go_wp2_with fail
          refine (len_any w.heap.size A' n' c' es' _ HT7.out.d.d).mono ?_
          rintro e w8 ⟨rfl, rfl⟩
          go_wp2
          go_roundw
          case rel => exact ⟨j + 1, A', n', c', Aw', nw', cw', es', by omega, by go_num, rfl, HLEN.out, HT7.out⟩
          case measure => simp [intOf]; omega
      · have t4 : ((q : Int) == 4) = false := by simp; omega
        have t5 : ((q : Int) == 5) = true := by simp; omega
        clear hq hq10

        as_aux_lemma =>
          go_wp2_with fail
          refine (refGet_any Aw nw cw es t _ HT2.out.l (by omega) HT2.out.d.d.s).mono ?_
          rintro e w4 ⟨a, b, r, hab, rfl, hb4⟩
          have HT4 := Lib.hid (HT2.out.up (hb4.alloc hb4.size (.cells #[.int .i64 a, .int .i64 b] 31)))
          have HH4 := Lib.hid (show Blk (w4.alloc (.cells #[.int .i64 a, .int .i64 b] 31)) w4.heap.size 31 [.int .i64 a, .int .i64 b] from Blk.new w4 _ [.int .i64 a, .int .i64 b])
          clear hb4 o0 o1 o3 o4 o5 o6
          go_upto_region 22 with fail
          obtain ⟨W4, hW4⟩ : ∃ W, W = w4.alloc (.cells #[.int .i64 a, .int .i64 b] 31) := ⟨_, rfl⟩
          obtain ⟨g4, hg4⟩ : ∃ g, g = w4.heap.size := ⟨_, rfl⟩
          rw [← hW4] at HT4 HH4 ⊢
          rw [← hg4] at HH4 ⊢
          clear hW4 hg4
          go_wp2_with fail
          refine (get_any w.heap.size A n c es t _ HT4.out.d.d (by omega)).mono ?_
          rintro e w5 ⟨a2, b2, r2, hab2, rfl, hb5⟩
          have HT5 := Lib.hid (HT4.out.up (hb5.alloc hb5.size (.cells #[.int .i64 a2, .int .i64 b2] 31)))
          have HH5 := Lib.hid (HH4.out.up (hb5.alloc hb5.size (.cells #[.int .i64 a2, .int .i64 b2] 31)))
          have hE := hab2.out.trans hab.out.symm
          injection hE with hE1 hE
          injection hE with hE2 hE3
          subst hE1 hE2 hE3
          have y0 := HH5.out.cell 0 _ rfl
          have y1 := HH5.out.cell 1 _ rfl
          clear hb5 hab hab2
          have ta : (a2 == a2) = true := by simp
          have tb : (b2 == b2) = true := by simp
          have tr : (r2 != r2) = false := by simp
          have HLEN := Lib.hid (show es.length ≤ j + 1 by omega)
          have HLA := Lib.hid (show nw = n by have h1 := HT5.out.l.len; rw [List.length_map] at h1; have h2 := HT5.out.d.d.len; omega)
          have hn24 : n ≤ 24 := by have h2 : (es).length = n := HT5.out.d.d.len; have h3 : (es).length ≤ j + 1 := HLEN.out; omega
          have hnn : ((n : Int) != nw) = false := by have h5 := HLA.out; simp <;> omega
          go_wp2_with fail
          refine (lall_any w.heap.size A n c es _ HT5.out.d.d (by omega)).mono ?_
          rintro e w6 ⟨Ax, cx, rfl, hox, hbx⟩
          have HX := Lib.hid hox.rd
          have HT6 := Lib.hid (HT5.out.up hbx)
          clear hox hbx
          go_wp2_with fail
          refine (same11_any Ax Aw n nw cx cw es es _ HX.out HT6.out.l (by omega)).mono ?_
          rintro e w7 ⟨rfl, hb7⟩
          rw [show decide (es = es) = true by simp]
          have HT7 := Lib.hid (HT6.out.up hb7)
          clear hb7
          go_wp2_with fail
          refine (len_any w.heap.size A n c es _ HT7.out.d.d).mono ?_
          rintro e w8 ⟨rfl, rfl⟩
          go_wp2
          go_roundw
          case rel => exact ⟨j + 1, A, n, c, Aw, nw, cw, es, by omega, by go_num, rfl, HLEN.out, HT7.out⟩
          case measure => simp [intOf]; omega
      · have t4 : ((q : Int) == 4) = false := by simp; omega
        have t5 : ((q : Int) == 5) = false := by simp; omega
        have t6 : ((q : Int) == 6) = true := by simp; omega
        clear hq hq10

        as_aux_lemma =>
          go_wp2_with fail
          refine (refDrop_any Aw nw cw es t _ HT2.out.l HT2.out.form HT2.out.nc HT2.out.cm (by omega) HT2.out.d.d.s).mono ?_
          rintro e w4 ⟨Aw', nw', cw', rfl, hl', hf', hn', hc', ha', hb4⟩
          obtain ⟨hd4, hap4⟩ := HT2.out.list hb4 hl' hf' hn' hc' ha'
          have HD4 := Lib.hid hd4
          have HL4 := Lib.hid hl'
          have HF4 := Lib.hid hf'
          have HA4 := Lib.hid hap4
          have HB4 := Lib.hid (HB2.out.up hb4)
          have o3 := HB4.out.cell 3 _ rfl
          have o4 := HB4.out.cell 4 _ rfl
          clear hl' hf' ha' hb4 hd4 hap4
          go_wp2_with fail
          refine (drop_any w.heap.size A n c es t _ HD4.out.d (by omega)).mono ?_
          rintro e w5 ⟨rfl, hp⟩
          obtain ⟨A', n', c', ht5⟩ := Two11.put HD4.out HL4.out HF4.out hn' hc' HA4.out hp
          have hlen := dropE_len es t
          clear hp o0 o1 o3 o4 o5 o6
          obtain ⟨R, hR⟩ : ∃ R, R = dropE es t := ⟨_, rfl⟩
          rw [← hR] at ht5 hlen ⊢
          have HT5 := Lib.hid ht5
          clear ht5 hR
          obtain ⟨es', er⟩ := R
          have HLEN := Lib.hid (show es'.length ≤ j + 1 from Nat.le_trans hlen (by omega))
          have tt : (er != er) = false := by simp
          clear hlen
          have HLA := Lib.hid (show nw' = n' by have h1 := HT5.out.l.len; rw [List.length_map] at h1; have h2 := HT5.out.d.d.len; omega)
          have hn24 : n' ≤ 24 := by have h2 : (es').length = n' := HT5.out.d.d.len; have h3 : (es').length ≤ j + 1 := HLEN.out; omega
          have hnn : ((n' : Int) != nw') = false := by have h5 := HLA.out; simp <;> omega
          go_wp2_with fail
          refine (lall_any w.heap.size A' n' c' es' _ HT5.out.d.d (by omega)).mono ?_
          rintro e w6 ⟨Ax, cx, rfl, hox, hbx⟩
          have HX := Lib.hid hox.rd
          have HT6 := Lib.hid (HT5.out.up hbx)
          clear hox hbx
          go_wp2_with fail
          refine (same11_any Ax Aw' n' nw' cx cw' es' es' _ HX.out HT6.out.l (by omega)).mono ?_
          rintro e w7 ⟨rfl, hb7⟩
          rw [show decide (es' = es') = true by simp]
          have HT7 := Lib.hid (HT6.out.up hb7)
          clear hb7
          go_wp2_with fail
          refine (len_any w.heap.size A' n' c' es' _ HT7.out.d.d).mono ?_
          rintro e w8 ⟨rfl, rfl⟩
          go_wp2
          go_roundw
          case rel => exact ⟨j + 1, A', n', c', Aw', nw', cw', es', by omega, by go_num, rfl, HLEN.out, HT7.out⟩
          case measure => simp [intOf]; omega
      · rcases hq with hq | hq
        · have t4 : ((q : Int) == 4) = false := by simp; omega
          have t5 : ((q : Int) == 5) = false := by simp; omega
          have t6 : ((q : Int) == 6) = false := by simp; omega
          have t7 : ((q : Int) == 7) = true := by simp; omega
          clear hq hq10
  
          as_aux_lemma =>
            go_wp2_with fail
            refine (refPage_any Aw nw cw es ofr omo _ HT2.out.l (by omega)).mono ?_
            rintro e w4 ⟨Ap, np, cp, rfl, hop, hb4⟩
            have HT4 := Lib.hid (HT2.out.up hb4)
            have HB4 := Lib.hid (HB2.out.up hb4)
            have HP4 := Lib.hid hop.rd
            have o5 := HB4.out.cell 5 _ rfl
            have o6 := HB4.out.cell 6 _ rfl
            clear hop hb4
            go_wp2_with fail
            refine (page_any w.heap.size A n c es ofr omo _ HT4.out.d.d (by omega)).mono ?_
            rintro e w5 ⟨Aq, nq, cq, rfl, hoq, hb5⟩
            have HT5 := Lib.hid (HT4.out.up hb5)
            have HQ5 := Lib.hid hoq.rd
            have HP5 := Lib.hid ((HP4.out.below hb5).more hb5.size)
            have hnp : np ≤ 24 := by have h1 := HP4.out.len; rw [List.length_map] at h1; have h2 := pageE_len es ofr omo; have h3 := HND.out; omega
            clear hoq hb5 o0 o1 o3 o4 o5 o6
            obtain ⟨R, hR⟩ : ∃ R, R = pageE es ofr omo := ⟨_, rfl⟩
            rw [← hR] at HP4 HP5 HQ5 ⊢
            clear hR
            obtain ⟨pl, pb, pe⟩ := R
            have tb : (pb != pb) = false := by simp
            have te : (pe != pe) = false := by simp
            go_wp2_with fail
            refine (same11_any Ap Aq np nq cp cq pl pl _ HP5.out HQ5.out (by omega)).mono ?_
            rintro e w9 ⟨rfl, hb9⟩
            rw [show decide (pl = pl) = true by simp]
            have HT9 := Lib.hid (HT5.out.up hb9)
            clear hb9
            have HLEN := Lib.hid (show es.length ≤ j + 1 by omega)
            have HLA := Lib.hid (show nw = n by have h1 := HT9.out.l.len; rw [List.length_map] at h1; have h2 := HT9.out.d.d.len; omega)
            have hn24 : n ≤ 24 := by have h2 : (es).length = n := HT9.out.d.d.len; have h3 : (es).length ≤ j + 1 := HLEN.out; omega
            have hnn : ((n : Int) != nw) = false := by have h5 := HLA.out; simp <;> omega
            go_wp2_with fail
            refine (lall_any w.heap.size A n c es _ HT9.out.d.d (by omega)).mono ?_
            rintro e w6 ⟨Ax, cx, rfl, hox, hbx⟩
            have HX := Lib.hid hox.rd
            have HT6 := Lib.hid (HT9.out.up hbx)
            clear hox hbx
            go_wp2_with fail
            refine (same11_any Ax Aw n nw cx cw es es _ HX.out HT6.out.l (by omega)).mono ?_
            rintro e w7 ⟨rfl, hb7⟩
            rw [show decide (es = es) = true by simp]
            have HT7 := Lib.hid (HT6.out.up hb7)
            clear hb7
            go_wp2_with fail
            refine (len_any w.heap.size A n c es _ HT7.out.d.d).mono ?_
            rintro e w8 ⟨rfl, rfl⟩
            go_wp2
            go_roundw
            case rel => exact ⟨j + 1, A, n, c, Aw, nw, cw, es, by omega, by go_num, rfl, HLEN.out, HT7.out⟩
            case measure => simp [intOf]; omega
        · have t4 : ((q : Int) == 4) = false := by simp; omega
          have t5 : ((q : Int) == 5) = false := by simp; omega
          have t6 : ((q : Int) == 6) = false := by simp; omega
          have t7 : ((q : Int) == 7) = false := by simp; omega
          have t8 : ((q : Int) == 8) = true := by simp; omega
          clear hq hq10
  
          as_aux_lemma =>
            go_wp2_with fail
            refine (refPage_any Aw nw cw es ofr omo _ HT2.out.l (by omega)).mono ?_
            rintro e w4 ⟨Ap, np, cp, rfl, hop, hb4⟩
            have HT4 := Lib.hid (HT2.out.up hb4)
            have HB4 := Lib.hid (HB2.out.up hb4)
            have HP4 := Lib.hid hop.rd
            have o5 := HB4.out.cell 5 _ rfl
            have o6 := HB4.out.cell 6 _ rfl
            clear hop hb4
            go_wp2_with fail
            refine (page_any w.heap.size A n c es ofr omo _ HT4.out.d.d (by omega)).mono ?_
            rintro e w5 ⟨Aq, nq, cq, rfl, hoq, hb5⟩
            have HT5 := Lib.hid (HT4.out.up hb5)
            have HQ5 := Lib.hid hoq.rd
            have HP5 := Lib.hid ((HP4.out.below hb5).more hb5.size)
            have hnp : np ≤ 24 := by have h1 := HP4.out.len; rw [List.length_map] at h1; have h2 := pageE_len es ofr omo; have h3 := HND.out; omega
            clear hoq hb5 o0 o1 o3 o4 o5 o6
            obtain ⟨R, hR⟩ : ∃ R, R = pageE es ofr omo := ⟨_, rfl⟩
            rw [← hR] at HP4 HP5 HQ5 ⊢
            clear hR
            obtain ⟨pl, pb, pe⟩ := R
            have tb : (pb != pb) = false := by simp
            have te : (pe != pe) = false := by simp
            go_wp2_with fail
            refine (same11_any Ap Aq np nq cp cq pl pl _ HP5.out HQ5.out (by omega)).mono ?_
            rintro e w9 ⟨rfl, hb9⟩
            rw [show decide (pl = pl) = true by simp]
            have HT9 := Lib.hid (HT5.out.up hb9)
            clear hb9
            have HLEN := Lib.hid (show es.length ≤ j + 1 by omega)
            have HLA := Lib.hid (show nw = n by have h1 := HT9.out.l.len; rw [List.length_map] at h1; have h2 := HT9.out.d.d.len; omega)
            have hn24 : n ≤ 24 := by have h2 : (es).length = n := HT9.out.d.d.len; have h3 : (es).length ≤ j + 1 := HLEN.out; omega
            have hnn : ((n : Int) != nw) = false := by have h5 := HLA.out; simp <;> omega
            go_wp2_with fail
            refine (lall_any w.heap.size A n c es _ HT9.out.d.d (by omega)).mono ?_
            rintro e w6 ⟨Ax, cx, rfl, hox, hbx⟩
            have HX := Lib.hid hox.rd
            have HT6 := Lib.hid (HT9.out.up hbx)
            clear hox hbx
            go_wp2_with fail
            refine (same11_any Ax Aw n nw cx cw es es _ HX.out HT6.out.l (by omega)).mono ?_
            rintro e w7 ⟨rfl, hb7⟩
            rw [show decide (es = es) = true by simp]
            have HT7 := Lib.hid (HT6.out.up hb7)
            clear hb7
            go_wp2_with fail
            refine (len_any w.heap.size A n c es _ HT7.out.d.d).mono ?_
            rintro e w8 ⟨rfl, rfl⟩
            go_wp2
            go_roundw
            case rel => exact ⟨j + 1, A, n, c, Aw, nw, cw, es, by omega, by go_num, rfl, HLEN.out, HT7.out⟩
            case measure => simp [intOf]; omega
      · have t4 : ((q : Int) == 4) = false := by simp; omega
        have t5 : ((q : Int) == 5) = false := by simp; omega
        have t6 : ((q : Int) == 6) = false := by simp; omega
        have t7 : ((q : Int) == 7) = false := by simp; omega
        have t8 : ((q : Int) == 8) = false := by simp; omega
        have t9 : ((q : Int) == 9) = true := by simp; omega
        clear hq hq10

        as_aux_lemma =>
          by_cases hm : Int.tmod on 3 = 0
          · have tm : (Int.tmod on 3 == 0) = true := by rw [hm]; rfl
            clear hm
            go_wp2_with fail
            refine (clear_any w.heap.size A n c es _ HT2.out.d.d (by omega)).mono ?_
            rintro e w5 ⟨rfl, hp⟩
            obtain ⟨A', n', c', ht5⟩ := Two11.put (es' := []) HT2.out.d (nil_rd _) (.inl ⟨rfl, rfl, rfl⟩) (Nat.le_refl _) (Nat.zero_le _) (fun b e => by cases e) hp
            have HT5 := Lib.hid ht5
            clear hp ht5 o0 o1 o3 o4 o5 o6
            have HLEN := Lib.hid (show ([] : List EntI).length ≤ j + 1 by simp)
            have HLA := Lib.hid (show 0 = n' by have h1 := HT5.out.l.len; rw [List.length_map] at h1; have h2 := HT5.out.d.d.len; omega)
            have hn24 : n' ≤ 24 := by have h2 : ([]).length = n' := HT5.out.d.d.len; have h3 : ([]).length ≤ j + 1 := HLEN.out; omega
            have hnn : ((n' : Int) != 0) = false := by have h5 := HLA.out; simp <;> omega
            go_wp2_with fail
            refine (lall_any w.heap.size A' n' c' [] _ HT5.out.d.d (by omega)).mono ?_
            rintro e w6 ⟨Ax, cx, rfl, hox, hbx⟩
            have HX := Lib.hid hox.rd
            have HT6 := Lib.hid (HT5.out.up hbx)
            clear hox hbx
            go_wp2_with fail
            refine (same11_any Ax none n' 0 cx 0 [] [] _ HX.out HT6.out.l (by omega)).mono ?_
            rintro e w7 ⟨rfl, hb7⟩
            rw [show decide ([] = []) = true by simp]
            have HT7 := Lib.hid (HT6.out.up hb7)
            clear hb7
            go_wp2_with fail
            refine (len_any w.heap.size A' n' c' [] _ HT7.out.d.d).mono ?_
            rintro e w8 ⟨rfl, rfl⟩
            go_wp2
            go_roundw
            case rel => exact ⟨j + 1, A', n', c', none, 0, 0, [], by omega, by go_num, rfl, HLEN.out, HT7.out⟩
            case measure => simp [intOf]; omega
          · have tm : (Int.tmod on 3 == 0) = false := by rw [beq_eq_false_iff_ne]; exact hm
            clear hm
            have HLEN := Lib.hid (show es.length ≤ j + 1 by omega)
            have HLA := Lib.hid (show nw = n by have h1 := HT2.out.l.len; rw [List.length_map] at h1; have h2 := HT2.out.d.d.len; omega)
            have hn24 : n ≤ 24 := by have h2 : (es).length = n := HT2.out.d.d.len; have h3 : (es).length ≤ j + 1 := HLEN.out; omega
            have hnn : ((n : Int) != nw) = false := by have h5 := HLA.out; simp <;> omega
            go_wp2_with fail
            refine (lall_any w.heap.size A n c es _ HT2.out.d.d (by omega)).mono ?_
            rintro e w6 ⟨Ax, cx, rfl, hox, hbx⟩
            have HX := Lib.hid hox.rd
            have HT6 := Lib.hid (HT2.out.up hbx)
            clear hox hbx
            go_wp2_with fail
            refine (same11_any Ax Aw n nw cx cw es es _ HX.out HT6.out.l (by omega)).mono ?_
            rintro e w7 ⟨rfl, hb7⟩
            rw [show decide (es = es) = true by simp]
            have HT7 := Lib.hid (HT6.out.up hb7)
            clear hb7
            go_wp2_with fail
            refine (len_any w.heap.size A n c es _ HT7.out.d.d).mono ?_
            rintro e w8 ⟨rfl, rfl⟩
            go_wp2
            go_roundw
            case rel => exact ⟨j + 1, A, n, c, Aw, nw, cw, es, by omega, by go_num, rfl, HLEN.out, HT7.out⟩
            case measure => simp [intOf]; omega
    · obtain rfl : j = k := by omega
      have HT := Lib.hid ht
      clear ht
      have hkk := hkk.out
      have hstop : ¬ ((j : Int) < n0) ∨ ((j : Int) < n0 ∧ ¬ ((j : Int) < 24)) := by
        by_cases h1 : (j : Int) < n0
        · exact .inr ⟨h1, by omega⟩
        · exact .inl h1
      clear hkk
      rcases hstop with h1 | ⟨h1, h2⟩
      all_goals
        go_wp2_with fail
        refine (lives11_any _).mono ?_
        rintro e w3 ⟨rfl, hb3⟩
        go_wp2
        go_ret
        exact ⟨rfl, Up.trans' HT.out.d.b hb3⟩
end Go.Proofs.Ytoaemkbdfinaoaa
