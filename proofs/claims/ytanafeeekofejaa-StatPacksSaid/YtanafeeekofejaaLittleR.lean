/-
  Layer 2: the reader.
-/
import Derived.Test.YtanafeeekofejaaLittleB
import Derived.Test.YtanafeeekofejaaBlk
import Derived.Test.YtanafeeekofejaaLawB
namespace Go.Proofs.Ytanafeeekofejaa
open Go.RowKit
set_option linter.unusedVariables false

/-- The reader in block g stands ahead of the bytes l, its error is e. -/
def Rdr (w : World) (g : Nat) (l : List UInt8) (e : Int) : Prop :=
  ∃ A n c, Blk w g 84 [.slice A n c, .int .i64 e] ∧ RdB w g A n l ∧ n ≤ c ∧ c ≤ maxLen ∧ StOk l e

section
variable {w w' : World} {g : Nat} {l : List UInt8} {e : Int}
theorem Rdr.lt (h : Rdr w g l e) : g < w.heap.size := by obtain ⟨_, _, _, h, _⟩ := h; exact h.lt
theorem Rdr.below {B : Nat} (h : Rdr w g l e) (k : Below B w w') (hg : g < B) : Rdr w' g l e := by
  obtain ⟨A, n, c, h1, h2, h3⟩ := h
  exact ⟨A, n, c, h1.below k hg, h2.below (k.mono (Nat.le_of_lt hg)), h3⟩
theorem Rdr.up (h : Rdr w g l e) (k : Below w.heap.size w w') : Rdr w' g l e := h.below k h.lt
theorem Rdr.drew (h : Rdr w g l e) : Rdr w.drew g l e := h
theorem Rdr.keeps {G : Nat → Prop} (h : Rdr w g l e) (k : Keeps G w w') (hG : ∀ k, k ≤ g → ¬ G k) : Rdr w' g l e :=
  h.below (k.under (Nat.succ_le_of_lt h.lt) fun i hi => hG i (by omega)) (Nat.lt_succ_self g)
end

def FailPost (w : World) (g : Nat) (e : Int) (x : Ending) (w' : World) : Prop := x = .returned (.tuple #[]) ∧ Rdr w' g [] e ∧ Keeps (Is g) w w'

theorem fail_any (g : Nat) (l : List UInt8) (e e' : Int) (w : World) (h : Rdr w g l e) :
    Calls Try.prog 59 #[.pointer (some ⟨g, 0, none⟩), .int .i64 e'] w (FailPost w g e') := by
  obtain ⟨A, n, c, hb, hr, hn, hc, hst⟩ := h
  have c0 := hb.cell 0 _ rfl
  have c1 := hb.cell 1 _ rfl
  have f0 := hb.free 0
  have f1 := hb.free 1
  have hs := (hb.set 1 (.int .i64 e')).set 0 (.slice none 0 0)
  have HS := Lib.hid hs
  have HB := Lib.hid hb
  clear hs hb
  go_enter Try.func59, Try.ntmps59
  go_wp2
  go_end0
  exact ⟨rfl, ⟨none, 0, 0, HS.out, RdB.nil, by omega, by unfold maxLen; omega, fun _ => rfl⟩, ((Keeps.refl (Is g) _).setCell (p := ⟨g, 1, none⟩) (.inl rfl) _).setCell (p := ⟨g, 0, none⟩) (.inl rfl) _⟩

/-- Whatever is left and whatever error stands: behind the next n bytes. -/
def NextPost (w : World) (g : Nat) (l : List UInt8) (e : Int) (n : Nat) (x : Ending) (w' : World) : Prop :=
  ∃ A m c l1 l2 e2, Hid (l1 = nxB l e n) ∧ Hid (l2 = nxL l e n) ∧ Hid (e2 = nxE l e n) ∧ x = .returned (.slice A m c) ∧ RdB w' g A m l1 ∧ m ≤ c ∧ c ≤ maxLen ∧ Rdr w' g l2 e2 ∧ Keeps (Is g) w w'

theorem next_any (g : Nat) (l : List UInt8) (e : Int) (k : Nat) (w : World) (h : Rdr w g l e) (hk : k ≤ 9223372036854775807) :
    Calls Try.prog 53 #[.pointer (some ⟨g, 0, none⟩), .int .i64 k] w (NextPost w g l e k) := by
  have H := Lib.hid h
  obtain ⟨A, n, c, hb, hr, hn, hc, hst⟩ := h
  have c0 := hb.cell 0 _ rfl
  have c1 := hb.cell 1 _ rfl
  have f0 := hb.free 0
  have hln := hr.len
  have hcm := hc
  unfold maxLen at hcm
  by_cases he : e = 0
  · subst he
    by_cases hlt : n < k
    · have HB := Lib.hid hb
      have HLN := Lib.hid hln
      clear hb hln
      go_enter Try.func53, Try.ntmps53
      go_wp2_with fail
      refine (fail_any g l 0 3 _ H.out).mono ?_
      rintro x w1 ⟨rfl, hr1, hk1⟩
      go_wp2
      go_ret
      refine ⟨none, 0, 0, [], [], 3, ?_, ?_, ?_, rfl, RdB.nil, by omega, by unfold maxLen; omega, hr1, hk1⟩
      · show _ = _; unfold nxB; rw [if_neg (by rw [HLN.out]; omega)]
      · show _ = _; unfold nxL; rw [if_neg (by rw [HLN.out]; omega)]
      · show _ = _; unfold nxE; rw [if_pos rfl, if_neg (by rw [HLN.out]; omega)]
    · have hkn : k ≤ n := by omega
      obtain ⟨Ak, hAk⟩ : ∃ Ak, (if c = k then A else A.map (fun x => x.add k)) = Ak := ⟨_, rfl⟩
      have hs := hb.set 0 (.slice Ak (n - k) (c - k))
      have hcut := hr.cut hkn hn
      have hf := hr.first hkn
      have hAk' : (if c = k then A else A.map (·.add k)) = Ak := hAk
      rw [hAk'] at hcut
      have HS := Lib.hid hs
      have HB := Lib.hid hb
      have HC := Lib.hid hcut
      have HF := Lib.hid hf
      have HLN := Lib.hid hln
      clear hb hln hs hcut hf hAk'
      go_enter Try.func53, Try.ntmps53
      go_wp2
      go_ret
      have hkp : Keeps (Is g) w (w.setCell ⟨g, 0, none⟩ (.slice Ak (n - k) (c - k))) := (Keeps.refl (Is g) _).setCell (p := ⟨g, 0, none⟩) (.inl rfl) _
      have hbl := hkp.is (Nat.le_refl g) (Nat.le_of_lt HB.out.lt)
      refine ⟨A, k, c, l.take k, l.drop k, 0, ?_, ?_, ?_, rfl, HF.out.below hbl, by omega, hc, ⟨Ak, n - k, c - k, HS.out, HC.out.below hbl, by omega, by unfold maxLen; omega, fun h => absurd rfl h⟩, hkp⟩
      · show _ = _; unfold nxB; rw [if_pos ⟨rfl, by rw [HLN.out]; omega⟩]
      · show _ = _; unfold nxL; rw [if_pos ⟨rfl, by rw [HLN.out]; omega⟩]
      · show _ = _; unfold nxE; rw [if_pos rfl, if_pos (by rw [HLN.out]; omega)]
  · have hne : (e != 0) = true := by simpa using he
    have hl0 := hst he
    subst hl0
    have HB := Lib.hid hb
    have HE := Lib.hid he
    clear hb he hln
    go_enter Try.func53, Try.ntmps53
    go_wp2
    go_ret
    refine ⟨none, 0, 0, [], [], e, ?_, ?_, ?_, rfl, RdB.nil, by omega, by unfold maxLen; omega, H.out, Keeps.refl _ _⟩
    · show _ = _; unfold nxB; rw [if_neg (fun h => HE.out h.1)]
    · show _ = _; unfold nxL; rw [if_neg (fun h => HE.out h.1)]
    · show _ = _; unfold nxE; rw [if_neg HE.out]

theorem nxB_len (l : List UInt8) (e : Int) (k : Nat) : (nxB l e k).length ≤ k := by
  unfold nxB
  split
  · rw [List.length_take]; omega
  · simp

def TakePost (w : World) (g : Nat) (l : List UInt8) (e : Int) (n : Nat) (kd : IntKind) (x : Ending) (w' : World) : Prop :=
  ∃ v l2 e2, Hid (v = num (nxB l e n)) ∧ Hid (l2 = nxL l e n) ∧ Hid (e2 = nxE l e n) ∧ x = .returned (.int kd (v : Nat)) ∧ Rdr w' g l2 e2 ∧ Keeps (Is g) w w'

def TakeRel (l1 : List UInt8) (x i : Value) : Prop := ∃ j y : Nat, j ≤ l1.length ∧ i = .int .i64 j ∧ x = .int .u64 y ∧ y = num (l1.take j)

theorem wrap_u64_nat (a : Nat) (ha : a < 2 ^ 64) : IntKind.u64.wrap (a : Int) = a := by
  simp [IntKind.wrap, IntKind.signed, IntKind.bits]
  omega
theorem ofInt_u64 (a : Nat) (ha : a < 18446744073709551616) : (BitVec.ofInt 64 (a : Int)).toNat = a := by
  rw [BitVec.ofInt_natCast, BitVec.toNat_ofNat]; exact Nat.mod_eq_of_lt (by omega)
theorem u64_or_nat (a b : Nat) (ha : a < 18446744073709551616) (hb : b < 18446744073709551616) : bits .or .u64 (a : Int) (b : Int) = ((a ||| b : Nat) : Int) := by
  have hx : a ||| b < 2 ^ 64 := Nat.or_lt_two_pow (by omega) (by omega)
  show IntKind.u64.wrap ((BitVec.ofInt 64 (a : Int) ||| BitVec.ofInt 64 (b : Int)).toNat : Int) = _
  rw [BitVec.toNat_or, ofInt_u64 a ha, ofInt_u64 b hb]
  exact wrap_u64_nat _ hx
theorem take_bits (y j : Nat) (x : UInt8) (hj : j < 8) (hy : y < 256 ^ j) : bits BinOp.or IntKind.u64 (y : Int) (IntKind.u64.wrap (IntKind.u64.wrap (x.toNat : Int) * 2 ^ (8 * j))) = ((y ||| x.toNat * 2 ^ (8 * j) : Nat) : Int) := by
  have hx := x.toNat_lt
  have hp : (2 : Nat) ^ (8 * j) ≤ 2 ^ 56 := Nat.pow_le_pow_right (by omega) (by omega)
  have hp2 : (256 : Nat) ^ j ≤ 2 ^ 56 := by
    have : (256 : Nat) ^ j = 2 ^ (8 * j) := by rw [Nat.pow_mul]
    omega
  have hxm : x.toNat * 2 ^ (8 * j) < 18446744073709551616 := by
    have := Nat.mul_le_mul (show x.toNat ≤ 255 by omega) hp
    omega
  rw [wrap_u64_nat _ (by omega)]
  have e : ((x.toNat : Int) * 2 ^ (8 * j)) = ((x.toNat * 2 ^ (8 * j) : Nat) : Int) := by simp
  rw [e, wrap_u64_nat _ (by omega)]
  exact u64_or_nat _ _ (by omega) hxm

theorem take16_any (g : Nat) (l : List UInt8) (e : Int) (w : World) (h : Rdr w g l e) :
    Calls Try.prog 58 #[.pointer (some ⟨g, 0, none⟩), .int .i64 2] w (TakePost w g l e 2 .u16) := by
  go_enter Try.func58, Try.ntmps58
  go_wp2_with fail
  refine (next_any g l e 2 _ h (by omega)).mono ?_
  rintro x w1 ⟨A, m, c, l1, l2, e2, hl1, hl2, he2, rfl, hr, hmc, hcm, hR, hK⟩
  have hln := hr.len
  have hm8 : m ≤ 2 := by rw [← hln, hl1.out]; exact nxB_len _ _ _
  have HLN := Lib.hid hln
  clear hln
  go_wp2
  go_loop [5, 12] (fun x i => TakeRel l1 x i) (fun _ i => m - (intOf i).toNat)
  case atStart => exact ⟨0, 0, by omega, rfl, rfl, by simp [num]⟩
  case round =>
    obtain ⟨j, y, hj, rfl, rfl, hy⟩ := hrel
    have HY := Lib.hid hy
    have hjm : j ≤ m := by rw [← HLN.out]; exact hj
    have hyl := num_take_lt l1 j hj
    rw [← hy] at hyl
    have HYL := Lib.hid hyl
    clear hy
    by_cases hlt : j < m
    · obtain ⟨b, off, x, hA, hbB, hx, hcell⟩ := hr.at_ hlt
      subst hA
      have hor := take_or l1 j x hx y HY.out
      have HV := Lib.hid (by have h1 := take_bits y j x (by omega) hyl; rw [hor] at h1; exact h1)
      have HJ : j + 1 ≤ l1.length := by rw [HLN.out]; omega
      clear hor hx hyl
      go_wp2
      refine ⟨⟨j + 1, _, HJ, by go_num, congrArg (Value.int .u64) HV.out, rfl⟩, ?_⟩
      simp [intOf]; omega
    · obtain rfl : j = m := by omega
      have hyv : y = num (nxB l e 2) := by rw [HY.out, List.take_of_length_le (by rw [HLN.out]; exact Nat.le_refl _), hl1.out]
      have hyb : y < 65536 := by
        have h1 := num_lt (nxB l e 2)
        have h2 := Nat.pow_le_pow_right (show 0 < 256 by omega) (nxB_len l e 2)
        rw [hyv]
        omega
      have HYV := Lib.hid hyv
      clear hyv hyl
      go_wp2
      go_ret
      exact ⟨y, l2, e2, HYV, hl2, he2, rfl, hR, hK⟩
theorem take32_any (g : Nat) (l : List UInt8) (e : Int) (w : World) (h : Rdr w g l e) :
    Calls Try.prog 54 #[.pointer (some ⟨g, 0, none⟩), .int .i64 4] w (TakePost w g l e 4 .u32) := by
  go_enter Try.func54, Try.ntmps54
  go_wp2_with fail
  refine (next_any g l e 4 _ h (by omega)).mono ?_
  rintro x w1 ⟨A, m, c, l1, l2, e2, hl1, hl2, he2, rfl, hr, hmc, hcm, hR, hK⟩
  have hln := hr.len
  have hm8 : m ≤ 4 := by rw [← hln, hl1.out]; exact nxB_len _ _ _
  have HLN := Lib.hid hln
  clear hln
  go_wp2
  go_loop [5, 12] (fun x i => TakeRel l1 x i) (fun _ i => m - (intOf i).toNat)
  case atStart => exact ⟨0, 0, by omega, rfl, rfl, by simp [num]⟩
  case round =>
    obtain ⟨j, y, hj, rfl, rfl, hy⟩ := hrel
    have HY := Lib.hid hy
    have hjm : j ≤ m := by rw [← HLN.out]; exact hj
    have hyl := num_take_lt l1 j hj
    rw [← hy] at hyl
    have HYL := Lib.hid hyl
    clear hy
    by_cases hlt : j < m
    · obtain ⟨b, off, x, hA, hbB, hx, hcell⟩ := hr.at_ hlt
      subst hA
      have hor := take_or l1 j x hx y HY.out
      have HV := Lib.hid (by have h1 := take_bits y j x (by omega) hyl; rw [hor] at h1; exact h1)
      have HJ : j + 1 ≤ l1.length := by rw [HLN.out]; omega
      clear hor hx hyl
      go_wp2
      refine ⟨⟨j + 1, _, HJ, by go_num, congrArg (Value.int .u64) HV.out, rfl⟩, ?_⟩
      simp [intOf]; omega
    · obtain rfl : j = m := by omega
      have hyv : y = num (nxB l e 4) := by rw [HY.out, List.take_of_length_le (by rw [HLN.out]; exact Nat.le_refl _), hl1.out]
      have hyb : y < 4294967296 := by
        have h1 := num_lt (nxB l e 4)
        have h2 := Nat.pow_le_pow_right (show 0 < 256 by omega) (nxB_len l e 4)
        rw [hyv]
        omega
      have HYV := Lib.hid hyv
      clear hyv hyl
      go_wp2
      go_ret
      exact ⟨y, l2, e2, HYV, hl2, he2, rfl, hR, hK⟩
theorem rU16_any (g : Nat) (l : List UInt8) (e : Int) (w : World) (h : Rdr w g l e) :
    Calls Try.prog 52 #[.pointer (some ⟨g, 0, none⟩)] w (TakePost w g l e 2 .u16) := by
  go_enter Try.func52, Try.ntmps52
  go_wp2_with fail
  refine (take16_any g l e _ h).mono ?_
  rintro x w1 ⟨v, l2, e2, hv, hl2, he2, rfl, hR, hK⟩
  go_wp2
  go_ret
  exact ⟨v, l2, e2, hv, hl2, he2, rfl, hR, hK⟩
theorem rU32_any (g : Nat) (l : List UInt8) (e : Int) (w : World) (h : Rdr w g l e) :
    Calls Try.prog 43 #[.pointer (some ⟨g, 0, none⟩)] w (TakePost w g l e 4 .u32) := by
  go_enter Try.func43, Try.ntmps43
  go_wp2_with fail
  refine (take32_any g l e _ h).mono ?_
  rintro x w1 ⟨v, l2, e2, hv, hl2, he2, rfl, hR, hK⟩
  go_wp2
  go_ret
  exact ⟨v, l2, e2, hv, hl2, he2, rfl, hR, hK⟩
end Go.Proofs.Ytanafeeekofejaa
