/-
  The law DirNames, walked.
-/
import Derived.Test.YtoaemkbdfinaoaaDirN
namespace Go.Proofs.Ytoaemkbdfinaoaa
open Go.RowKit
set_option linter.unusedVariables false
set_option linter.unusedSimpArgs false

theorem get_put {es : List EntI} {s : List UInt8} {i g : Int} (h : Srt (insE es (posN es s) (s, i, g))) : getE (insE es (posN es s) (s, i, g)) s = (i, g, 0) := by
  have hat : (insE es (posN es s) (s, i, g))[posN es s]? = some (s, i, g) := by
    unfold insE
    have hp := posN_le es s
    rw [List.getElem?_append_right (by rw [List.length_take]; omega), List.length_take, Nat.min_eq_left hp, Nat.sub_self]
    rfl
  exact (getE_at h hat rfl).symm
def DnmJ (w : World) (g k : Nat) (x : Value) (wr : World) : Prop :=
  ∃ (j : Nat) (A : Option Addr) (n c : Nat) (es : List EntI), j ≤ k ∧ x = .int .i64 j ∧ n ≤ j ∧ DrIn w wr g A n c es

set_option maxRecDepth 100000 in
set_option maxHeartbeats 8000000 in
theorem dirNames_walk (l : List UInt8) (A0 : Option Addr) (n0 c0 : Nat) (zs : List Int) (w : World) (hl : l.length ≤ 9223372036854775807) (h : RdV w w.heap.size A0 n0 (kv .i64 zs)) (hz : ∀ z ∈ zs, -9223372036854775808 ≤ z ∧ z ≤ 9223372036854775807) (hn : n0 ≤ 9223372036854775807) :
    Calls Try.prog 6 #[.string (st l), .slice A0 n0 c0] w fun e w' => e = .returned (.bool true) ∧ Below w.heap.size w w' := by
  have gT : Try.prog.eqGuardType Try.prog.depth 31 = false := by kernel_rfl
  have sT : Try.prog.stoodInHeld 31 = false := by kernel_rfl
  have H := Lib.hid h
  have HZ := Lib.hid hz
  have HLL := Lib.hid hl
  clear h hz hl
  go_enter Try.func6, Try.ntmps6
  go_wp2_with fail
  refine (new_any _).mono ?_
  rintro e w1 ⟨rfl, hd1, hb1⟩
  have H1 := Lib.hid (DrIn.new hd1 (Below.refl _ _) hb1)
  clear hd1 hb1
  obtain ⟨k, hk10, hkn, hkk⟩ : ∃ k : Nat, k ≤ 5 ∧ k ≤ n0 ∧ Hid (k = 5 ∨ k = n0) := by
    by_cases h : 5 ≤ n0
    · exact ⟨5, by omega, h, Lib.hid (.inl rfl)⟩
    · exact ⟨n0, by omega, by omega, Lib.hid (.inr rfl)⟩
  go_wp2
  go_loopw [6] (fun x wr => DnmJ w w.heap.size k x wr) (fun x _ => k - (intOf x).toNat)
  case atStart => exact ⟨0, none, 0, 0, [], by omega, rfl, Nat.le_refl _, H1.out⟩
  case round =>
    obtain ⟨j, A, n, c, es, hj, rfl, hnj, ht⟩ := hrel
    by_cases hlt : j < k
    · have j1 : (j : Int) < n0 := Int.ofNat_lt.2 (Nat.lt_of_lt_of_le hlt hkn)
      have j0 : (0 : Int) ≤ j := Int.natCast_nonneg j
      have j2 : (j : Int) < 5 := Int.ofNat_lt.2 (Nat.lt_of_lt_of_le hlt hk10)
      obtain ⟨b, off, z, hA, hz, hc⟩ := int_at (H.out.below ht.b) (show j < n0 from Nat.lt_of_lt_of_le hlt hkn)
      subst hA
      obtain ⟨zl, zu⟩ := HZ.out z (List.mem_of_getElem? hz)
      have HT := Lib.hid ht
      clear ht hz
      go_wp2_with fail
      refine (of_small z _ zl zu).mono ?_
      rintro e w3 ⟨rfl, hb3⟩
      have HT3 := Lib.hid (HT.out.up hb3)
      have o1 : (ofW z).length ≤ 32 := (ofW_ok z).2
      clear hc hb3
      go_wp2_with fail
      refine (put_any w.heap.size A n c es (ofW z) j 0 _ HT3.out.d (by omega) (by omega)).mono ?_
      rintro e w5 ⟨rfl, hp⟩
      obtain ⟨A', n', c', ht5, _, _⟩ := HT3.out.post hp
      have HT5 := Lib.hid ht5
      have hn5 : n' ≤ j + 1 := by have h1 := HT5.out.d.len; have h2 := putE_len es (ofW z) j 0; have h3 := HT3.out.d.len; omega
      clear hp ht5
      go_wp2
      go_roundw
      case rel => exact ⟨j + 1, A', n', c', _, by omega, by go_num, hn5, HT5.out⟩
      case measure => simp [intOf]; omega
    · obtain rfl : j = k := by omega
      have HT := Lib.hid ht
      clear ht
      have hkk := hkk.out
      have hstop : ¬ ((j : Int) < n0) ∨ ((j : Int) < n0 ∧ ¬ ((j : Int) < 5)) := by
        by_cases h1 : (j : Int) < n0
        · exact .inr ⟨h1, by omega⟩
        · exact .inl h1
      have hn5 : n ≤ 5 := by omega
      clear hkk
      have t50 : (l.take 50).length ≤ 50 := by rw [List.length_take]; omega
      rcases hstop with h1 | ⟨h1, h2⟩
      all_goals
        go_wp2_with fail
        refine (lall_any w.heap.size A n c es _ HT.out.d (by omega)).mono ?_
        rintro e w3 ⟨Ax, cx, rfl, hox, hbx⟩
        have HX3 := Lib.hid hox.rd
        have HIN := Lib.hid hox.inB
        have HT3 := Lib.hid (HT.out.up hbx)
        clear hox hbx
        go_wp2_with fail
        refine (short_any l 50 _ (by omega) HLL.out).mono ?_
        rintro e w4 ⟨t, htk, rfl, rfl⟩
        have htl : t.length ≤ 50 := by rw [htk.out]; exact t50
        clear htk t50
        go_wp2_with fail
        refine (put_any w.heap.size A n c es t 99 0 _ HT3.out.d (by omega) (by omega)).mono ?_
        rintro e w5 ⟨rfl, hp⟩
        obtain ⟨R, hR⟩ : ∃ R, R = putE es t 99 0 := ⟨_, rfl⟩
        obtain ⟨A', n', c', ht5, hk5, _⟩ := HT3.out.post hp
        rw [← hR] at ht5 ⊢
        have HT5 := Lib.hid ht5
        have HX5 := Lib.hid (RdR.keepB HX3.out hk5 (fun b hb e => by
          have h1 := (HIN.out b hb).1
          rcases e with e | e
          · have := HT.out.d.b.lt; omega
          · have := HT.out.d.in_lt b e; omega))
        have hn6 : n' ≤ 6 := by have h1 := HT5.out.d.len; have h2 := putE_len es t 99 0; rw [← hR] at h2; have h3 := HT3.out.d.len; omega
        have HR := Lib.hid hR
        clear hp ht5 hk5 hR
        obtain ⟨es', er⟩ := R
        go_wp2_with fail
        refine (lall_any w.heap.size A' n' c' es' _ HT5.out.d (by omega)).mono ?_
        rintro e w6 ⟨Ay, cy, rfl, hoy, hby⟩
        have HY6 := Lib.hid hoy.rd
        have HX6 := Lib.hid ((HX5.out.below hby).more hby.size)
        have HT6 := Lib.hid (HT5.out.up hby)
        have HNN := Lib.hid (show n = es.length from HT.out.d.len.symm)
        have HNN' := Lib.hid (show n' = es'.length from HT5.out.d.len.symm)
        clear hoy hby
        go_wp2_with fail
        refine (refName_any t _ (by omega)).mono ?_
        rintro e w7 ⟨rfl, rfl⟩
        rcases hnm : isName t with _ | _
        · have hE : (es', er) = (es, 16) := by rw [HR.out]; exact if_pos hnm
          injection hE with hE1 hE2
          subst hE1 hE2
          clear hnm
          go_wp2_with fail
          refine (same11_any Ax Ay n n' cx cy _ _ _ HX6.out HY6.out (by omega)).mono ?_
          rintro e w8 ⟨rfl, hb8⟩
          rw [show decide (es' = es') = true by simp]
          have HB8 := Lib.hid (Up.trans' HT6.out.b hb8)
          clear hb8
          go_wp2_with fail
          refine (lives11_any _).mono ?_
          rintro e w9 ⟨rfl, hb9⟩
          go_wp2
          go_ret
          exact ⟨rfl, Up.trans' HB8.out hb9⟩
        have HNM := Lib.hid hnm
        clear hnm
        go_wp2_with fail
        refine (refFind_any Ax n cx es t _ HX6.out (by omega)).mono ?_
        rintro e w8 ⟨r, rfl, rfl, hf⟩
        rcases hf with ⟨i, x, rfl, hil, hx, hxs⟩ | ⟨rfl, hno⟩
        · have hE : (es', er) = (es, 10) := by rw [HR.out]; unfold putE; rw [HNM.out, if_neg (by simp), if_pos (has_of_find hx hxs)]
          injection hE with hE1 hE2
          subst hE1 hE2
          have i0 : (0 : Int) ≤ i := Int.natCast_nonneg i
          clear hx hxs hil
          go_wp2_with fail
          refine (same11_any Ax Ay n n' cx cy _ _ _ HX6.out HY6.out (by omega)).mono ?_
          rintro e w8 ⟨rfl, hb8⟩
          rw [show decide (es' = es') = true by simp]
          have HB8 := Lib.hid (Up.trans' HT6.out.b hb8)
          clear hb8
          go_wp2_with fail
          refine (lives11_any _).mono ?_
          rintro e w9 ⟨rfl, hb9⟩
          go_wp2
          go_ret
          exact ⟨rfl, Up.trans' HB8.out hb9⟩
        · have hE : (es', er) = (insE es (posN es t) (t, 99, 0), 0) := by rw [HR.out]; unfold putE; rw [HNM.out, if_neg (by simp), if_neg (by rw [hno]; simp)]
          injection hE with hE1 hE2
          have hnn : n' = n + 1 := by rw [HNN'.out, HNN.out, hE1, insE_len _ _ _ (posN_le _ _)]
          have HG := Lib.hid (show getE es' t = (99, 0, 0) by rw [hE1]; exact get_put (by rw [← hE1]; exact HT5.out.d.s))
          have hn1 : (n : Int) + 1 = n' := by omega
          have HN1 := Lib.hid hnn
          subst hE2
          clear hno hE1 hnn
          go_wp2_with fail
          refine (get_any w.heap.size A' n' c' es' t _ HT6.out.d (by omega)).mono ?_
          rintro e w9 ⟨a, b, r, hab, rfl, hb9⟩
          have hE : (a, b, r) = ((99 : Int), (0 : Int), (0 : Int)) := by rw [hab.out, HG.out]
          injection hE with hE1 hE
          injection hE with hE2 hE3
          subst hE1 hE2 hE3
          have HB9 := Lib.hid (Up.trans' HT6.out.b hb9)
          clear hb9 hab
          go_wp2_with fail
          refine (lives11_any _).mono ?_
          rintro e w10 ⟨rfl, hb10⟩
          go_wp2
          go_ret
          exact ⟨rfl, Up.trans' (HB9.out.alloc HB9.out.size _) hb10⟩
end Go.Proofs.Ytoaemkbdfinaoaa
