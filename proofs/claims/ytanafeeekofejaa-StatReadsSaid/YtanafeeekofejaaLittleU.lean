/-
  The reference's reader, its slice named (printed by wip/mklittleU.py out of XLittleT).
-/
import Derived.Test.YtanafeeekofejaaLittleT
namespace Go.Proofs.Ytanafeeekofejaa
open Go.RowKit
set_option linter.unusedVariables false

/-- The reference's reader in block g stands ahead of the bytes l, its error is e. -/
def RRb (A0 : Option Addr) (n0 c0 : Nat) (b0 : List UInt8) (w : World) (B g : Nat) (l : List UInt8) (e : Int) : Prop :=
  ∃ I, Blk w g 77 [.slice A0 n0 c0, .int .i64 (I : Nat), .int .i64 e] ∧ RdB w B A0 n0 b0 ∧ n0 ≤ c0 ∧ c0 ≤ maxLen ∧ I ≤ n0 ∧ B ≤ g ∧ (e = 0 → l = b0.drop I) ∧ (e ≠ 0 → l = [])

section
variable {A0 : Option Addr} {n0 c0 : Nat} {b0 : List UInt8} {w w' : World} {B g : Nat} {l : List UInt8} {e : Int}
theorem RRb.lt (h : RRb A0 n0 c0 b0 w B g l e) : g < w.heap.size := by obtain ⟨_, h, _⟩ := h; exact h.lt
theorem RRb.low (h : RRb A0 n0 c0 b0 w B g l e) : B ≤ g := by obtain ⟨_, _, _, _, _, _, h, _⟩ := h; exact h
theorem RRb.below {B' : Nat} (h : RRb A0 n0 c0 b0 w B g l e) (k : Below B' w w') (hg : g < B') : RRb A0 n0 c0 b0 w' B g l e := by
  have hl := h.low
  obtain ⟨I, h1, h2, h3⟩ := h
  exact ⟨I, h1.below k hg, h2.below (k.mono (by omega)), h3⟩
theorem RRb.up (h : RRb A0 n0 c0 b0 w B g l e) (k : Below w.heap.size w w') : RRb A0 n0 c0 b0 w' B g l e := h.below k h.lt
theorem RRb.drew (h : RRb A0 n0 c0 b0 w B g l e) : RRb A0 n0 c0 b0 w.drew B g l e := h
theorem RRb.keeps {h : Nat} (hr : RRb A0 n0 c0 b0 w B g l e) (k : Keeps (Is h) w w') (hne : h ≠ g) (hB : B ≤ h) (hh : h ≤ w.heap.size) : RRb A0 n0 c0 b0 w' B g l e := by
  obtain ⟨I, h1, h2, h3⟩ := hr
  exact ⟨I, h1.keeps k (fun e => hne (Eq.symm e)), h2.below (k.is hB hh), h3⟩
end

def RbBytesPost (A0 : Option Addr) (n0 c0 : Nat) (b0 : List UInt8) (w : World) (B g : Nat) (l : List UInt8) (e : Int) (n : Nat) (x : Ending) (w' : World) : Prop :=
  ∃ A m c l1 l2 e2, Hid (l1 = nxB l e n) ∧ Hid (l2 = nxL l e n) ∧ Hid (e2 = nxE l e n) ∧ x = .returned (.slice A m c) ∧ RdB w' B A m l1 ∧ m ≤ c ∧ c ≤ maxLen ∧ RRb A0 n0 c0 b0 w' B g l2 e2 ∧ Keeps (Is g) w w'

theorem rbBytes_any (A : Option Addr) (n c : Nat) (b : List UInt8) (B g : Nat) (l : List UInt8) (e : Int) (k : Nat) (w : World) (h : RRb A n c b w B g l e) (hk : k ≤ 4294967296) :
    Calls Try.prog 55 #[.pointer (some ⟨g, 0, none⟩), .int .i64 k] w (RbBytesPost A n c b w B g l e k) := by
  have H := Lib.hid h
  obtain ⟨I, hb, hr, hn, hc, hI, hBg, hl0, hl1⟩ := h
  have c0 := hb.cell 0 _ rfl
  have c1 := hb.cell 1 _ rfl
  have c2 := hb.cell 2 _ rfl
  have f1 := hb.free 1
  have f2 := hb.free 2
  have d0 := (hb.drew).abv 0 _ rfl
  have d1 := (hb.drew).abv 1 _ rfl
  have hln := hr.len
  have hcm := hc
  unfold maxLen at hcm
  by_cases he : e = 0
  · subst he
    have hl := hl0 rfl
    subst hl
    have hlen : (b.drop I).length = n - I := by rw [List.length_drop, hln]
    have hdr : IntKind.i64.wrap ((n : Int) - I) = (n : Int) - I := IntWalk.i64_in _ (by omega)
    by_cases hlt : n - I < k
    · have ht : decide ((n : Int) - I < k) = true := by simp; omega
      have hs := (hb.drew).set 2 (.int .i64 3)
      have HS := Lib.hid hs
      have HB := Lib.hid hb
      have HLN := Lib.hid hlen
      clear hb hln hs hlen hl0 hl1
      go_enter Try.func55, Try.ntmps55
      go_wp2
      refine wp_region_plan NoG [(0, false), (1, false), (2, false), (3, false), (4, false), (5, false), (6, false), (7, false), (8, false), (9, false), (10, false), (11, false)] (by kernel_rfl) (by kernel_rfl) ?_
      repeat (refine plan_take (by simp only [List.getElem?_toArray, List.getElem?_cons_succ, List.getElem?_cons_zero]; exact rfl) ?_; go_big_quiet_step (fail); refine wpQuiet_nil ?_)
      refine plan_end ?_
      go_wp2
      go_ret
      have hkp : Keeps (Is g) w (w.setCell ⟨g, 2, none⟩ (.int .i64 3)).drew := ((Keeps.refl (Is g) _).setCell (p := ⟨g, 2, none⟩) (.inl rfl) _).drew
      have hbl := hkp.is hBg (Nat.le_of_lt HB.out.lt)
      refine ⟨none, 0, 0, [], [], 3, ?_, ?_, ?_, rfl, RdB.nil, by omega, by unfold maxLen; omega, ⟨I, (HB.out.set 2 _).drew, hr.below hbl, hn, hc, hI, hBg, fun h => absurd h (by omega), fun _ => rfl⟩, hkp⟩
      · show _ = _; unfold nxB; rw [if_neg (by rw [HLN.out]; omega)]
      · show _ = _; unfold nxL; rw [if_neg (by rw [HLN.out]; omega)]
      · show _ = _; unfold nxE; rw [if_pos rfl, if_neg (by rw [HLN.out]; omega)]
    · have ht : decide ((n : Int) - I < k) = false := by simp; omega
      obtain ⟨Ak, hAk⟩ : ∃ Ak, (if c = I then A else A.map (fun x => x.add I)) = Ak := ⟨_, rfl⟩
      have hcut := hr.cut hI hn
      have hAk' : (if c = I then A else A.map (·.add I)) = Ak := hAk
      rw [hAk'] at hcut
      have hf := hcut.first (k := k) (by omega)
      have hdr2 : IntKind.i64.wrap ((I : Int) + k) = (I : Int) + k := IntWalk.i64_in _ (by omega)
      have d0' := hb.drew.drew.abv 0 _ rfl
      have d1' := hb.drew.drew.abv 1 _ rfl
      have hIk : I ≤ I + k := by omega
      have hIc : I + k ≤ c := by omega
      have HB := Lib.hid hb
      have HF := Lib.hid hf
      have HLN := Lib.hid hlen
      clear hb hln hlen hl0 hl1 hcut hf hAk'
      go_enter Try.func55, Try.ntmps55
      go_wp2
      refine wp_region_plan NoG [(0, false), (1, false), (2, false), (3, false), (4, false), (5, false), (6, false), (7, false), (8, false), (9, false), (10, false), (11, false)] (by kernel_rfl) (by kernel_rfl) ?_
      repeat (refine plan_take (by simp only [List.getElem?_toArray, List.getElem?_cons_succ, List.getElem?_cons_zero]; exact rfl) ?_; go_big_quiet_step (fail); refine wpQuiet_nil ?_)
      refine plan_end ?_
      go_wp2
      refine wp_region_plan NoG [(0, false), (1, false), (2, false), (3, false), (4, false), (5, false), (6, false), (7, false), (8, false), (9, false), (10, false), (11, false), (12, false), (13, false), (14, false), (15, false)] (by kernel_rfl) (by kernel_rfl) ?_
      repeat (refine plan_take (by simp only [List.getElem?_toArray, List.getElem?_cons_succ, List.getElem?_cons_zero]; exact rfl) ?_; go_big_quiet_step (fail); refine wpQuiet_nil ?_)
      refine plan_end ?_
      go_wp2
      go_ret
      have hkp : Keeps (Is g) w (w.setCell ⟨g, 1, none⟩ (.int .i64 ((I + k : Nat) : Int))).drew.drew := ((Keeps.refl (Is g) _).setCell (p := ⟨g, 1, none⟩) (.inl rfl) _).drew.drew
      have hbl := hkp.is hBg (Nat.le_of_lt HB.out.lt)
      refine ⟨Ak, k, c - I, (b.drop I).take k, (b.drop I).drop k, 0, ?_, ?_, ?_, ?_, HF.out.below hbl, by omega, by unfold maxLen; omega, ⟨I + k, (HB.out.set 1 _).drew.drew, hr.below hbl, hn, hc, by omega, hBg, fun _ => by rw [List.drop_drop], fun h => absurd rfl h⟩, hkp⟩
      · show _ = _; unfold nxB; rw [if_pos ⟨rfl, by rw [HLN.out]; omega⟩]
      · show _ = _; unfold nxL; rw [if_pos ⟨rfl, by rw [HLN.out]; omega⟩]
      · show _ = _; unfold nxE; rw [if_pos rfl, if_pos (by rw [HLN.out]; omega)]
      · have e : I + k - I = k := by omega
        show Ending.returned (.slice Ak (I + k - I) (c - I)) = _
        rw [e]
  · have hne : (e != 0) = true := by simpa using he
    have hl := hl1 he
    subst hl
    have HB := Lib.hid hb
    have HE := Lib.hid he
    clear hb he hln hl0 hl1
    go_enter Try.func55, Try.ntmps55
    go_wp2
    go_ret
    refine ⟨none, 0, 0, [], [], e, ?_, ?_, ?_, rfl, RdB.nil, by omega, by unfold maxLen; omega, H.out, Keeps.refl _ _⟩
    · show _ = _; unfold nxB; rw [if_neg (fun h => HE.out h.1)]
    · show _ = _; unfold nxL; rw [if_neg (fun h => HE.out h.1)]
    · show _ = _; unfold nxE; rw [if_neg HE.out]

def RbNumPost (A0 : Option Addr) (n0 c0 : Nat) (b0 : List UInt8) (w : World) (B g : Nat) (l : List UInt8) (e : Int) (n : Nat) (x : Ending) (w' : World) : Prop :=
  ∃ v l2 e2, Hid (v = num (nxB l e n)) ∧ Hid (l2 = nxL l e n) ∧ Hid (e2 = nxE l e n) ∧ x = .returned (.int .u64 (v : Nat)) ∧ RRb A0 n0 c0 b0 w' B g l2 e2 ∧ Keeps (Is g) w w'


theorem rbNumber_any (A0 : Option Addr) (n0 c0 : Nat) (b0 : List UInt8) (B g : Nat) (l : List UInt8) (e : Int) (k : Nat) (w : World) (h : RRb A0 n0 c0 b0 w B g l e) (hk : k ≤ 8) :
    Calls Try.prog 47 #[.pointer (some ⟨g, 0, none⟩), .int .i64 k] w (RbNumPost A0 n0 c0 b0 w B g l e k) := by
  go_enter Try.func47, Try.ntmps47
  go_wp2_with fail
  refine (rbBytes_any A0 n0 c0 b0 B g l e k _ h (by omega)).mono ?_
  rintro x w1 ⟨A, m, c, l1, l2, e2, hl1, hl2, he2, rfl, hr, hmc, hcm, hR, hK⟩
  have hln := hr.len
  have hm8 : m ≤ k := by rw [← hln, hl1.out]; exact nxB_len _ _ _
  have HLN := Lib.hid hln
  clear hln
  go_wp2
  go_loop [6, 7] (fun x i => RNumRel l1 x i) (fun _ i => (intOf i + 1).toNat)
  case atStart => exact ⟨m, 0, _, by rw [HLN.out]; exact Nat.le_refl _, rfl, rfl, rfl, by rw [List.drop_of_length_le (by rw [HLN.out]; exact Nat.le_refl _)]; rfl⟩
  case round =>
    obtain ⟨j, y, z, hj, hz, rfl, rfl, hy⟩ := hrel
    have HY := Lib.hid hy
    have hjm : j ≤ m := by rw [← HLN.out]; exact hj
    have hyl := num_lt (l1.drop j)
    rw [← hy, List.length_drop, HLN.out] at hyl
    clear hy
    rcases Nat.eq_zero_or_pos j with hj0 | hj0
    · subst hj0
      obtain rfl : z = -1 := by omega
      have hyv : y = num (nxB l e k) := by rw [HY.out, List.drop_zero, hl1.out]
      have HYV := Lib.hid hyv
      clear hyv hyl hz
      go_wp2
      go_ret
      exact ⟨y, l2, e2, HYV, hl2, he2, rfl, hR, hK⟩
    · obtain ⟨i, rfl⟩ : ∃ i, j = i + 1 := ⟨j - 1, by omega⟩
      obtain rfl : z = (i : Int) := by omega
      obtain ⟨b, off, x, hA, hbB, hx, hcell⟩ := hr.at_ (k := i) (by omega)
      subst hA
      have hp : 256 ^ (m - (i + 1)) ≤ 256 ^ 7 := Nat.pow_le_pow_right (by omega) (by omega)
      have hy7 : y < 72057594037927936 := by omega
      have hxl := x.toNat_lt
      have hnx : 256 * y + x.toNat = num (l1.drop i) := by
        have hi : i < l1.length := by omega
        rw [List.drop_eq_getElem_cons hi, num, HY.out]
        have : l1[i] = x := (List.getElem?_eq_some_iff.1 hx).2
        rw [this]; omega
      have HN := Lib.hid hnx
      clear hnx hx hyl hp hz
      go_wp2
      refine ⟨⟨i, 256 * y + x.toNat, _, by omega, rfl, rfl, by go_num, HN.out⟩, ?_⟩
      simp [intOf]

def RbStrPost (A0 : Option Addr) (n0 c0 : Nat) (b0 : List UInt8) (w : World) (B g : Nat) (b l : List UInt8) (e : Int) (x : Ending) (w' : World) : Prop :=
  ∃ l1 l2 e2, Hid (l1 = b) ∧ Hid (l2 = l) ∧ Hid (e2 = e) ∧ x = .returned (.string (st l1)) ∧ RRb A0 n0 c0 b0 w' B g l2 e2 ∧ Keeps (Is g) w w'

theorem rbRText_any (A0 : Option Addr) (n0 c0 : Nat) (b0 : List UInt8) (B g : Nat) (l : List UInt8) (e : Int) (w : World) (h : RRb A0 n0 c0 b0 w B g l e) :
    Calls Try.prog 46 #[.pointer (some ⟨g, 0, none⟩)] w (RbStrPost A0 n0 c0 b0 w B g (txB l e) (txL l e) (txE l e)) := by
  go_enter Try.func46, Try.ntmps46
  go_wp2_with fail
  refine (rbNumber_any A0 n0 c0 b0 B g l e 2 _ h (by omega)).mono ?_
  rintro x w1 ⟨v, l2, e2, hv, hl2, he2, rfl, hR, hK⟩
  have hvb : v ≤ 65535 := by
    have h1 := num_lt (nxB l e 2)
    have h2 := Nat.pow_le_pow_right (show 0 < 256 by omega) (nxB_len l e 2)
    rw [hv.out]
    omega
  go_wp2_with fail
  refine (rbBytes_any A0 n0 c0 b0 B g l2 e2 v _ hR (by omega)).mono ?_
  rintro x w2 ⟨A, m, c, l3, l4, e4, hl3, hl4, he4, rfl, hr, hmc, hcm, hR2, hK2⟩
  have hcv := str_of (c := c) (hr.more (Nat.le_trans hR2.low (Nat.le_of_lt hR2.lt))) (Below.refl _ _)
  go_wp2
  go_ret
  refine ⟨l3, l4, e4, ?_, ?_, ?_, rfl, hR2, hK.trans hK2⟩
  · show _ = _; rw [hl3.out, hl2.out, he2.out, hv.out]; rfl
  · show _ = _; rw [hl4.out, hl2.out, he2.out, hv.out]; rfl
  · show _ = _; rw [he4.out, hl2.out, he2.out, hv.out]; rfl

def RbDataPost (A0 : Option Addr) (n0 c0 : Nat) (b0 : List UInt8) (w : World) (B g : Nat) (b l : List UInt8) (e : Int) (x : Ending) (w' : World) : Prop :=
  ∃ A m c l1 l2 e2, Hid (l1 = b) ∧ Hid (l2 = l) ∧ Hid (e2 = e) ∧ x = .returned (.slice A m c) ∧ RdB w' B A m l1 ∧ RRb A0 n0 c0 b0 w' B g l2 e2 ∧ Keeps (Is g) w w'

end Go.Proofs.Ytanafeeekofejaa
