/-
  Layer 2: the reader.
  Layer 2: the reader's texts and data, its end; bytes.Clone; Read.
  tell's reader: qid, qids, stat.
  tell's reader: qids, stat.
  tell's reader: part.
  tell.Read.
-/
import Derived.Test.YtoplkglnjgllnaaLittleB
import Derived.Test.YtoplkglnjgllnaaBlk
import Derived.Test.YtoplkglnjgllnaaLawB
import Derived.Test.YtoplkglnjgllnaaTellJ
import Derived.Test.YtoplkglnjgllnaaTellS
import Derived.Test.YtoplkglnjgllnaaTellM
namespace Go.Proofs.Ytoplkglnjgllnaa
open Go.RowKit
set_option linter.unusedVariables false
set_option linter.unusedSimpArgs false

/-- The reader in block g stands ahead of the bytes l, its error is e. -/
def Rdr (w : World) (g : Nat) (l : List UInt8) (e : Int) : Prop :=
  ∃ A n c, Blk w g 100 [.slice A n c, .int .i64 e] ∧ RdB w g A n l ∧ n ≤ c ∧ c ≤ maxLen ∧ StOk l e

section
variable {w w' : World} {g : Nat} {l : List UInt8} {e : Int}
theorem Rdr.lt (h : Rdr w g l e) : g < w.heap.size := by obtain ⟨_, _, _, h, _⟩ := h; exact h.lt
theorem Rdr.below {B : Nat} (h : Rdr w g l e) (k : Below B w w') (hg : g < B) : Rdr w' g l e := by
  obtain ⟨A, n, c, h1, h2, h3⟩ := h
  exact ⟨A, n, c, h1.below k hg, h2.below (k.mono (Nat.le_of_lt hg)), h3⟩
theorem Rdr.up (h : Rdr w g l e) (k : Below w.heap.size w w') : Rdr w' g l e := h.below k h.lt
theorem Rdr.drew (h : Rdr w g l e) : Rdr w.drew g l e := h
theorem Rdr.keeps {G : Nat → Prop} (h : Rdr w g l e) (k : Keeps G w w') (hG : ∀ k, k ≤ g → ¬ G k) : Rdr w' g l e :=
  h.below (k.under (Nat.succ_le_of_lt h.lt) fun i hi => hG i (by omega)) (Nat.lt_succ_self g)
end

def FailPost (w : World) (g : Nat) (e : Int) (x : Ending) (w' : World) : Prop := x = .returned (.tuple #[]) ∧ Rdr w' g [] e ∧ Keeps (Is g) w w'

theorem fail_any (g : Nat) (l : List UInt8) (e e' : Int) (w : World) (h : Rdr w g l e) :
    Calls Try.prog 87 #[.pointer (some ⟨g, 0, none⟩), .int .i64 e'] w (FailPost w g e') := by
  obtain ⟨A, n, c, hb, hr, hn, hc, hst⟩ := h
  have c0 := hb.cell 0 _ rfl
  have c1 := hb.cell 1 _ rfl
  have f0 := hb.free 0
  have f1 := hb.free 1
  have hs := (hb.set 1 (.int .i64 e')).set 0 (.slice none 0 0)
  have HS := Lib.hid hs
  have HB := Lib.hid hb
  clear hs hb
  go_enter Try.func87, Try.ntmps87
  go_wp2
  go_end0
  exact ⟨rfl, ⟨none, 0, 0, HS.out, RdB.nil, by omega, by unfold maxLen; omega, fun _ => rfl⟩, ((Keeps.refl (Is g) _).setCell (p := ⟨g, 1, none⟩) (.inl rfl) _).setCell (p := ⟨g, 0, none⟩) (.inl rfl) _⟩

/-- Whatever is left and whatever error stands: behind the next n bytes. -/
def NextPost (w : World) (g : Nat) (l : List UInt8) (e : Int) (n : Nat) (x : Ending) (w' : World) : Prop :=
  ∃ A m c l1 l2 e2, Hid (l1 = nxB l e n) ∧ Hid (l2 = nxL l e n) ∧ Hid (e2 = nxE l e n) ∧ x = .returned (.slice A m c) ∧ RdB w' g A m l1 ∧ m ≤ c ∧ c ≤ maxLen ∧ Rdr w' g l2 e2 ∧ Keeps (Is g) w w'

theorem next_any (g : Nat) (l : List UInt8) (e : Int) (k : Nat) (w : World) (h : Rdr w g l e) (hk : k ≤ 9223372036854775807) :
    Calls Try.prog 85 #[.pointer (some ⟨g, 0, none⟩), .int .i64 k] w (NextPost w g l e k) := by
  have H := Lib.hid h
  obtain ⟨A, n, c, hb, hr, hn, hc, hst⟩ := h
  have c0 := hb.cell 0 _ rfl
  have c1 := hb.cell 1 _ rfl
  have f0 := hb.free 0
  have hln := hr.len
  have hcm := hc
  unfold maxLen at hcm
  by_cases he : e = 0
  · subst he
    by_cases hlt : n < k
    · have HB := Lib.hid hb
      have HLN := Lib.hid hln
      clear hb hln
      go_enter Try.func85, Try.ntmps85
      go_wp2_with fail
      refine (fail_any g l 0 3 _ H.out).mono ?_
      rintro x w1 ⟨rfl, hr1, hk1⟩
      go_wp2
      go_ret
      refine ⟨none, 0, 0, [], [], 3, ?_, ?_, ?_, rfl, RdB.nil, by omega, by unfold maxLen; omega, hr1, hk1⟩
      · show _ = _; unfold nxB; rw [if_neg (by rw [HLN.out]; omega)]
      · show _ = _; unfold nxL; rw [if_neg (by rw [HLN.out]; omega)]
      · show _ = _; unfold nxE; rw [if_pos rfl, if_neg (by rw [HLN.out]; omega)]
    · have hkn : k ≤ n := by omega
      obtain ⟨Ak, hAk⟩ : ∃ Ak, (if c = k then A else A.map (fun x => x.add k)) = Ak := ⟨_, rfl⟩
      have hs := hb.set 0 (.slice Ak (n - k) (c - k))
      have hcut := hr.cut hkn hn
      have hf := hr.first hkn
      have hAk' : (if c = k then A else A.map (·.add k)) = Ak := hAk
      rw [hAk'] at hcut
      have HS := Lib.hid hs
      have HB := Lib.hid hb
      have HC := Lib.hid hcut
      have HF := Lib.hid hf
      have HLN := Lib.hid hln
      clear hb hln hs hcut hf hAk'
      go_enter Try.func85, Try.ntmps85
      go_wp2
      go_ret
      have hkp : Keeps (Is g) w (w.setCell ⟨g, 0, none⟩ (.slice Ak (n - k) (c - k))) := (Keeps.refl (Is g) _).setCell (p := ⟨g, 0, none⟩) (.inl rfl) _
      have hbl := hkp.is (Nat.le_refl g) (Nat.le_of_lt HB.out.lt)
      refine ⟨A, k, c, l.take k, l.drop k, 0, ?_, ?_, ?_, rfl, HF.out.below hbl, by omega, hc, ⟨Ak, n - k, c - k, HS.out, HC.out.below hbl, by omega, by unfold maxLen; omega, fun h => absurd rfl h⟩, hkp⟩
      · show _ = _; unfold nxB; rw [if_pos ⟨rfl, by rw [HLN.out]; omega⟩]
      · show _ = _; unfold nxL; rw [if_pos ⟨rfl, by rw [HLN.out]; omega⟩]
      · show _ = _; unfold nxE; rw [if_pos rfl, if_pos (by rw [HLN.out]; omega)]
  · have hne : (e != 0) = true := by simpa using he
    have hl0 := hst he
    subst hl0
    have HB := Lib.hid hb
    have HE := Lib.hid he
    clear hb he hln
    go_enter Try.func85, Try.ntmps85
    go_wp2
    go_ret
    refine ⟨none, 0, 0, [], [], e, ?_, ?_, ?_, rfl, RdB.nil, by omega, by unfold maxLen; omega, H.out, Keeps.refl _ _⟩
    · show _ = _; unfold nxB; rw [if_neg (fun h => HE.out h.1)]
    · show _ = _; unfold nxL; rw [if_neg (fun h => HE.out h.1)]
    · show _ = _; unfold nxE; rw [if_neg HE.out]

theorem nxB_len (l : List UInt8) (e : Int) (k : Nat) : (nxB l e k).length ≤ k := by
  unfold nxB
  split
  · rw [List.length_take]; omega
  · simp

def TakePost (w : World) (g : Nat) (l : List UInt8) (e : Int) (n : Nat) (kd : IntKind) (x : Ending) (w' : World) : Prop :=
  ∃ v l2 e2, Hid (v = num (nxB l e n)) ∧ Hid (l2 = nxL l e n) ∧ Hid (e2 = nxE l e n) ∧ x = .returned (.int kd (v : Nat)) ∧ Rdr w' g l2 e2 ∧ Keeps (Is g) w w'

def TakeRel (l1 : List UInt8) (x i : Value) : Prop := ∃ j y : Nat, j ≤ l1.length ∧ i = .int .i64 j ∧ x = .int .u64 y ∧ y = num (l1.take j)

theorem wrap_u64_nat (a : Nat) (ha : a < 2 ^ 64) : IntKind.u64.wrap (a : Int) = a := by
  simp [IntKind.wrap, IntKind.signed, IntKind.bits]
  omega
theorem ofInt_u64 (a : Nat) (ha : a < 18446744073709551616) : (BitVec.ofInt 64 (a : Int)).toNat = a := by
  rw [BitVec.ofInt_natCast, BitVec.toNat_ofNat]; exact Nat.mod_eq_of_lt (by omega)
theorem u64_or_nat (a b : Nat) (ha : a < 18446744073709551616) (hb : b < 18446744073709551616) : bits .or .u64 (a : Int) (b : Int) = ((a ||| b : Nat) : Int) := by
  have hx : a ||| b < 2 ^ 64 := Nat.or_lt_two_pow (by omega) (by omega)
  show IntKind.u64.wrap ((BitVec.ofInt 64 (a : Int) ||| BitVec.ofInt 64 (b : Int)).toNat : Int) = _
  rw [BitVec.toNat_or, ofInt_u64 a ha, ofInt_u64 b hb]
  exact wrap_u64_nat _ hx
theorem take_bits (y j : Nat) (x : UInt8) (hj : j < 8) (hy : y < 256 ^ j) : bits BinOp.or IntKind.u64 (y : Int) (IntKind.u64.wrap (IntKind.u64.wrap (x.toNat : Int) * 2 ^ (8 * j))) = ((y ||| x.toNat * 2 ^ (8 * j) : Nat) : Int) := by
  have hx := x.toNat_lt
  have hp : (2 : Nat) ^ (8 * j) ≤ 2 ^ 56 := Nat.pow_le_pow_right (by omega) (by omega)
  have hp2 : (256 : Nat) ^ j ≤ 2 ^ 56 := by
    have : (256 : Nat) ^ j = 2 ^ (8 * j) := by rw [Nat.pow_mul]
    omega
  have hxm : x.toNat * 2 ^ (8 * j) < 18446744073709551616 := by
    have := Nat.mul_le_mul (show x.toNat ≤ 255 by omega) hp
    omega
  rw [wrap_u64_nat _ (by omega)]
  have e : ((x.toNat : Int) * 2 ^ (8 * j)) = ((x.toNat * 2 ^ (8 * j) : Nat) : Int) := by simp
  rw [e, wrap_u64_nat _ (by omega)]
  exact u64_or_nat _ _ (by omega) hxm

theorem take8_any (g : Nat) (l : List UInt8) (e : Int) (w : World) (h : Rdr w g l e) :
    Calls Try.prog 64 #[.pointer (some ⟨g, 0, none⟩), .int .i64 1] w (TakePost w g l e 1 .u8) := by
  go_enter Try.func64, Try.ntmps64
  go_wp2_with fail
  refine (next_any g l e 1 _ h (by omega)).mono ?_
  rintro x w1 ⟨A, m, c, l1, l2, e2, hl1, hl2, he2, rfl, hr, hmc, hcm, hR, hK⟩
  have hln := hr.len
  have hm8 : m ≤ 1 := by rw [← hln, hl1.out]; exact nxB_len _ _ _
  have HLN := Lib.hid hln
  clear hln
  go_wp2
  go_loop [5, 12] (fun x i => TakeRel l1 x i) (fun _ i => m - (intOf i).toNat)
  case atStart => exact ⟨0, 0, by omega, rfl, rfl, by simp [num]⟩
  case round =>
    obtain ⟨j, y, hj, rfl, rfl, hy⟩ := hrel
    have HY := Lib.hid hy
    have hjm : j ≤ m := by rw [← HLN.out]; exact hj
    have hyl := num_take_lt l1 j hj
    rw [← hy] at hyl
    have HYL := Lib.hid hyl
    clear hy
    by_cases hlt : j < m
    · obtain ⟨b, off, x, hA, hbB, hx, hcell⟩ := hr.at_ hlt
      subst hA
      have hor := take_or l1 j x hx y HY.out
      have HV := Lib.hid (by have h1 := take_bits y j x (by omega) hyl; rw [hor] at h1; exact h1)
      have HJ : j + 1 ≤ l1.length := by rw [HLN.out]; omega
      clear hor hx hyl
      go_wp2
      refine ⟨⟨j + 1, _, HJ, by go_num, congrArg (Value.int .u64) HV.out, rfl⟩, ?_⟩
      simp [intOf]; omega
    · obtain rfl : j = m := by omega
      have hyv : y = num (nxB l e 1) := by rw [HY.out, List.take_of_length_le (by rw [HLN.out]; exact Nat.le_refl _), hl1.out]
      have hyb : y < 256 := by
        have h1 := num_lt (nxB l e 1)
        have h2 := Nat.pow_le_pow_right (show 0 < 256 by omega) (nxB_len l e 1)
        rw [hyv]
        omega
      have HYV := Lib.hid hyv
      clear hyv hyl
      go_wp2
      go_ret
      exact ⟨y, l2, e2, HYV, hl2, he2, rfl, hR, hK⟩
theorem take16_any (g : Nat) (l : List UInt8) (e : Int) (w : World) (h : Rdr w g l e) :
    Calls Try.prog 65 #[.pointer (some ⟨g, 0, none⟩), .int .i64 2] w (TakePost w g l e 2 .u16) := by
  go_enter Try.func65, Try.ntmps65
  go_wp2_with fail
  refine (next_any g l e 2 _ h (by omega)).mono ?_
  rintro x w1 ⟨A, m, c, l1, l2, e2, hl1, hl2, he2, rfl, hr, hmc, hcm, hR, hK⟩
  have hln := hr.len
  have hm8 : m ≤ 2 := by rw [← hln, hl1.out]; exact nxB_len _ _ _
  have HLN := Lib.hid hln
  clear hln
  go_wp2
  go_loop [5, 12] (fun x i => TakeRel l1 x i) (fun _ i => m - (intOf i).toNat)
  case atStart => exact ⟨0, 0, by omega, rfl, rfl, by simp [num]⟩
  case round =>
    obtain ⟨j, y, hj, rfl, rfl, hy⟩ := hrel
    have HY := Lib.hid hy
    have hjm : j ≤ m := by rw [← HLN.out]; exact hj
    have hyl := num_take_lt l1 j hj
    rw [← hy] at hyl
    have HYL := Lib.hid hyl
    clear hy
    by_cases hlt : j < m
    · obtain ⟨b, off, x, hA, hbB, hx, hcell⟩ := hr.at_ hlt
      subst hA
      have hor := take_or l1 j x hx y HY.out
      have HV := Lib.hid (by have h1 := take_bits y j x (by omega) hyl; rw [hor] at h1; exact h1)
      have HJ : j + 1 ≤ l1.length := by rw [HLN.out]; omega
      clear hor hx hyl
      go_wp2
      refine ⟨⟨j + 1, _, HJ, by go_num, congrArg (Value.int .u64) HV.out, rfl⟩, ?_⟩
      simp [intOf]; omega
    · obtain rfl : j = m := by omega
      have hyv : y = num (nxB l e 2) := by rw [HY.out, List.take_of_length_le (by rw [HLN.out]; exact Nat.le_refl _), hl1.out]
      have hyb : y < 65536 := by
        have h1 := num_lt (nxB l e 2)
        have h2 := Nat.pow_le_pow_right (show 0 < 256 by omega) (nxB_len l e 2)
        rw [hyv]
        omega
      have HYV := Lib.hid hyv
      clear hyv hyl
      go_wp2
      go_ret
      exact ⟨y, l2, e2, HYV, hl2, he2, rfl, hR, hK⟩
theorem take32_any (g : Nat) (l : List UInt8) (e : Int) (w : World) (h : Rdr w g l e) :
    Calls Try.prog 63 #[.pointer (some ⟨g, 0, none⟩), .int .i64 4] w (TakePost w g l e 4 .u32) := by
  go_enter Try.func63, Try.ntmps63
  go_wp2_with fail
  refine (next_any g l e 4 _ h (by omega)).mono ?_
  rintro x w1 ⟨A, m, c, l1, l2, e2, hl1, hl2, he2, rfl, hr, hmc, hcm, hR, hK⟩
  have hln := hr.len
  have hm8 : m ≤ 4 := by rw [← hln, hl1.out]; exact nxB_len _ _ _
  have HLN := Lib.hid hln
  clear hln
  go_wp2
  go_loop [5, 12] (fun x i => TakeRel l1 x i) (fun _ i => m - (intOf i).toNat)
  case atStart => exact ⟨0, 0, by omega, rfl, rfl, by simp [num]⟩
  case round =>
    obtain ⟨j, y, hj, rfl, rfl, hy⟩ := hrel
    have HY := Lib.hid hy
    have hjm : j ≤ m := by rw [← HLN.out]; exact hj
    have hyl := num_take_lt l1 j hj
    rw [← hy] at hyl
    have HYL := Lib.hid hyl
    clear hy
    by_cases hlt : j < m
    · obtain ⟨b, off, x, hA, hbB, hx, hcell⟩ := hr.at_ hlt
      subst hA
      have hor := take_or l1 j x hx y HY.out
      have HV := Lib.hid (by have h1 := take_bits y j x (by omega) hyl; rw [hor] at h1; exact h1)
      have HJ : j + 1 ≤ l1.length := by rw [HLN.out]; omega
      clear hor hx hyl
      go_wp2
      refine ⟨⟨j + 1, _, HJ, by go_num, congrArg (Value.int .u64) HV.out, rfl⟩, ?_⟩
      simp [intOf]; omega
    · obtain rfl : j = m := by omega
      have hyv : y = num (nxB l e 4) := by rw [HY.out, List.take_of_length_le (by rw [HLN.out]; exact Nat.le_refl _), hl1.out]
      have hyb : y < 4294967296 := by
        have h1 := num_lt (nxB l e 4)
        have h2 := Nat.pow_le_pow_right (show 0 < 256 by omega) (nxB_len l e 4)
        rw [hyv]
        omega
      have HYV := Lib.hid hyv
      clear hyv hyl
      go_wp2
      go_ret
      exact ⟨y, l2, e2, HYV, hl2, he2, rfl, hR, hK⟩
theorem take64_any (g : Nat) (l : List UInt8) (e : Int) (w : World) (h : Rdr w g l e) :
    Calls Try.prog 90 #[.pointer (some ⟨g, 0, none⟩), .int .i64 8] w (TakePost w g l e 8 .u64) := by
  go_enter Try.func90, Try.ntmps90
  go_wp2_with fail
  refine (next_any g l e 8 _ h (by omega)).mono ?_
  rintro x w1 ⟨A, m, c, l1, l2, e2, hl1, hl2, he2, rfl, hr, hmc, hcm, hR, hK⟩
  have hln := hr.len
  have hm8 : m ≤ 8 := by rw [← hln, hl1.out]; exact nxB_len _ _ _
  have HLN := Lib.hid hln
  clear hln
  go_wp2
  go_loop [5, 12] (fun x i => TakeRel l1 x i) (fun _ i => m - (intOf i).toNat)
  case atStart => exact ⟨0, 0, by omega, rfl, rfl, by simp [num]⟩
  case round =>
    obtain ⟨j, y, hj, rfl, rfl, hy⟩ := hrel
    have HY := Lib.hid hy
    have hjm : j ≤ m := by rw [← HLN.out]; exact hj
    have hyl := num_take_lt l1 j hj
    rw [← hy] at hyl
    have HYL := Lib.hid hyl
    clear hy
    by_cases hlt : j < m
    · obtain ⟨b, off, x, hA, hbB, hx, hcell⟩ := hr.at_ hlt
      subst hA
      have hor := take_or l1 j x hx y HY.out
      have HV := Lib.hid (by have h1 := take_bits y j x (by omega) hyl; rw [hor] at h1; exact h1)
      have HJ : j + 1 ≤ l1.length := by rw [HLN.out]; omega
      clear hor hx hyl
      go_wp2
      refine ⟨⟨j + 1, _, HJ, by go_num, congrArg (Value.int .u64) HV.out, rfl⟩, ?_⟩
      simp [intOf]; omega
    · obtain rfl : j = m := by omega
      have hyv : y = num (nxB l e 8) := by rw [HY.out, List.take_of_length_le (by rw [HLN.out]; exact Nat.le_refl _), hl1.out]
      have hyb : y < 18446744073709551616 := by
        have h1 := num_lt (nxB l e 8)
        have h2 := Nat.pow_le_pow_right (show 0 < 256 by omega) (nxB_len l e 8)
        rw [hyv]
        omega
      have HYV := Lib.hid hyv
      clear hyv hyl
      go_wp2
      go_ret
      exact ⟨y, l2, e2, HYV, hl2, he2, rfl, hR, hK⟩
theorem rU8_any (g : Nat) (l : List UInt8) (e : Int) (w : World) (h : Rdr w g l e) :
    Calls Try.prog 44 #[.pointer (some ⟨g, 0, none⟩)] w (TakePost w g l e 1 .u8) := by
  go_enter Try.func44, Try.ntmps44
  go_wp2_with fail
  refine (take8_any g l e _ h).mono ?_
  rintro x w1 ⟨v, l2, e2, hv, hl2, he2, rfl, hR, hK⟩
  go_wp2
  go_ret
  exact ⟨v, l2, e2, hv, hl2, he2, rfl, hR, hK⟩
theorem rU16_any (g : Nat) (l : List UInt8) (e : Int) (w : World) (h : Rdr w g l e) :
    Calls Try.prog 45 #[.pointer (some ⟨g, 0, none⟩)] w (TakePost w g l e 2 .u16) := by
  go_enter Try.func45, Try.ntmps45
  go_wp2_with fail
  refine (take16_any g l e _ h).mono ?_
  rintro x w1 ⟨v, l2, e2, hv, hl2, he2, rfl, hR, hK⟩
  go_wp2
  go_ret
  exact ⟨v, l2, e2, hv, hl2, he2, rfl, hR, hK⟩
theorem rU32_any (g : Nat) (l : List UInt8) (e : Int) (w : World) (h : Rdr w g l e) :
    Calls Try.prog 43 #[.pointer (some ⟨g, 0, none⟩)] w (TakePost w g l e 4 .u32) := by
  go_enter Try.func43, Try.ntmps43
  go_wp2_with fail
  refine (take32_any g l e _ h).mono ?_
  rintro x w1 ⟨v, l2, e2, hv, hl2, he2, rfl, hR, hK⟩
  go_wp2
  go_ret
  exact ⟨v, l2, e2, hv, hl2, he2, rfl, hR, hK⟩
theorem rU64_any (g : Nat) (l : List UInt8) (e : Int) (w : World) (h : Rdr w g l e) :
    Calls Try.prog 86 #[.pointer (some ⟨g, 0, none⟩)] w (TakePost w g l e 8 .u64) := by
  go_enter Try.func86, Try.ntmps86
  go_wp2_with fail
  refine (take64_any g l e _ h).mono ?_
  rintro x w1 ⟨v, l2, e2, hv, hl2, he2, rfl, hR, hK⟩
  go_wp2
  go_ret
  exact ⟨v, l2, e2, hv, hl2, he2, rfl, hR, hK⟩

theorem OwB.empty (w : World) (base : Nat) (hb : base ≤ w.heap.size) : OwB (w.alloc (.cells #[] 5)) base (some ⟨w.heap.size, 0, none⟩) 0 0 [] :=
  ⟨by simp [bv], .inr ⟨w.heap.size, 0, #[], (0, 0), rfl, hb, heap_alloc_new w _, .inl (Nat.le_refl _), Nat.le_refl _, by unfold maxLen; omega, by simp, by simp [bv]⟩⟩

theorem clone_any (A : Option Addr) (n c : Nat) (l : List UInt8) (w : World) (h : RdB w w.heap.size A n l) (hn : n ≤ 1073741824) :
    Calls Try.prog 62 #[.slice A n c] w (LayPost w l) := by
  have hq := fun W => Lib.run_eql_slice_nil (P := Try.prog) W 25 5 A n c 0 0 Try.underlying25
  cases A with
  | none =>
    have hl : l = [] := by
      rcases Nat.eq_zero_or_pos n with h0 | h0
      · exact List.eq_nil_of_length_eq_zero (by rw [h.len]; exact h0)
      · obtain ⟨ad, e, _⟩ := h.2 h0; cases e
    subst hl
    go_enter Try.func62, Try.ntmps62
    go_wp2
    go_ret
    exact ⟨none, 0, 0, [], rfl, rfl, OwB.nil _ _, Below.refl _ _⟩
  | some ad =>
    have H' := Lib.hid ((h.alloc (Nat.le_refl _) (.cells #[] 5)).src (P := Try.prog) (c := c) 25 5 Try.underlying25)
    go_enter Try.func62, Try.ntmps62
    go_wp2_with (at_builtin; go_must (refine wpList_appendB bytesElem rfl (.tmp 5) (.tmp 6) 25 rfl w.heap.size _ 0 0 [] rfl (OwB.empty w _ (Nat.le_refl _)) _ rfl n l H'.out (by omega) (by simp) ?_); intro A2 n2 c2 l2 w2 hl2 hn2 hown2 hb2 hg2)
    go_ret
    exact ⟨A2, n2, c2, l2, by rw [hl2.out]; rfl, rfl, hown2, ((Below.refl _ _).alloc (Nat.le_refl _) _).trans hb2⟩

def ReadPost (w : World) (l : List UInt8) (x : Ending) (w' : World) : Prop := ∃ g, x = .returned (.pointer (some ⟨g, 0, none⟩)) ∧ w.heap.size ≤ g ∧ Rdr w' g l 0 ∧ Below w.heap.size w w'

theorem read_any (A : Option Addr) (n c : Nat) (l : List UInt8) (w : World) (h : RdB w w.heap.size A n l) (hn : n ≤ 1073741824) :
    Calls Try.prog 42 #[.slice A n c] w (ReadPost w l) := by
  go_enter Try.func42, Try.ntmps42
  go_wp2_with fail
  refine (clone_any A n c l _ h hn).mono ?_
  rintro x w1 ⟨A1, n1, c1, l1, hl1, rfl, hown1, hb1⟩
  obtain rfl := hl1.out
  have hcc := hown1.cap
  go_wp2
  go_ret
  exact ⟨w1.heap.size, rfl, hb1.size, ⟨A1, n1, c1, Blk.new _ _ _, hown1.rd.alloc (Nat.le_refl _) _, hcc.1, hcc.2, fun h => absurd rfl h⟩, hb1.alloc hb1.size _⟩

def StrPost (w : World) (g : Nat) (b l : List UInt8) (e : Int) (x : Ending) (w' : World) : Prop :=
  ∃ l1 l2 e2, Hid (l1 = b) ∧ Hid (l2 = l) ∧ Hid (e2 = e) ∧ x = .returned (.string (st l1)) ∧ Rdr w' g l2 e2 ∧ Keeps (Is g) w w'

theorem rText_any (g : Nat) (l : List UInt8) (e : Int) (w : World) (h : Rdr w g l e) :
    Calls Try.prog 66 #[.pointer (some ⟨g, 0, none⟩)] w (StrPost w g (txB l e) (txL l e) (txE l e)) := by
  go_enter Try.func66, Try.ntmps66
  go_wp2_with fail
  refine (rU16_any g l e _ h).mono ?_
  rintro x w1 ⟨v, l2, e2, hv, hl2, he2, rfl, hR, hK⟩
  have hvb : v ≤ 65535 := by
    have h1 := num_lt (nxB l e 2)
    have h2 := Nat.pow_le_pow_right (show 0 < 256 by omega) (nxB_len l e 2)
    rw [hv.out]
    omega
  go_wp2_with fail
  refine (next_any g l2 e2 v _ hR (by omega)).mono ?_
  rintro x w2 ⟨A, m, c, l3, l4, e4, hl3, hl4, he4, rfl, hr, hmc, hcm, hR2, hK2⟩
  have hcv := str_of (c := c) (hr.more (Nat.le_of_lt hR2.lt)) (Below.refl _ _)
  go_wp2
  go_ret
  refine ⟨l3, l4, e4, ?_, ?_, ?_, rfl, hR2, hK.trans hK2⟩
  · show _ = _; rw [hl3.out, hl2.out, he2.out, hv.out]; rfl
  · show _ = _; rw [hl4.out, hl2.out, he2.out, hv.out]; rfl
  · show _ = _; rw [he4.out, hl2.out, he2.out, hv.out]; rfl

def BytesPost (w : World) (g : Nat) (b l : List UInt8) (e : Int) (x : Ending) (w' : World) : Prop :=
  ∃ A m c l1 l2 e2, Hid (l1 = b) ∧ Hid (l2 = l) ∧ Hid (e2 = e) ∧ x = .returned (.slice A m c) ∧ OwB w' w.heap.size A m c l1 ∧ Rdr w' g l2 e2 ∧ Keeps (Is g) w w'

theorem rEnd_any (g : Nat) (l : List UInt8) (e : Int) (w : World) (h : Rdr w g l e) :
    Calls Try.prog 48 #[.pointer (some ⟨g, 0, none⟩)] w fun x w' => x = .returned (.int .i64 (endE l e)) ∧ w = w' := by
  obtain ⟨A, n, c, hb, hr, hn, hc, hst⟩ := h
  have c0 := hb.cell 0 _ rfl
  have c1 := hb.cell 1 _ rfl
  have hln := hr.len
  generalize hE : endE l e = E
  unfold endE at hE
  clear hb
  unfold maxLen at hc
  by_cases he : e = 0
  · subst he
    by_cases h0 : 0 < n
    · rw [if_pos ⟨rfl, by omega⟩] at hE
      subst hE
      clear hln
      go_enter Try.func48, Try.ntmps48
      go_wp2
      go_ret
      exact ⟨rfl, rfl⟩
    · rw [if_neg (by omega)] at hE
      subst hE
      clear hln
      have hd : decide ((0 : Int) < n) = false := by simp; omega
      have hd2 : decide (0 < n) = false := by simp; omega
      go_enter Try.func48, Try.ntmps48
      go_wp2
      go_ret
      exact ⟨rfl, rfl⟩
  · rw [if_neg (fun h => he h.1)] at hE
    subst hE
    clear hln
    have hd : (e == 0) = false := by simpa using he
    go_enter Try.func48, Try.ntmps48
    go_wp2
    go_ret
    exact ⟨rfl, rfl⟩

theorem rData_any (g : Nat) (l : List UInt8) (e most : Int) (w : World) (h : Rdr w g l e) (hm1 : -9223372036854775808 ≤ most) (hm2 : most ≤ 9223372036854775807) (hlb : l.length ≤ 1048576) :
    Calls Try.prog 69 #[.pointer (some ⟨g, 0, none⟩), .int .i64 most] w (BytesPost w g (dtB l e most) (dtL l e most) (dtE l e most)) := by
  go_enter Try.func69, Try.ntmps69
  go_wp2_with fail
  refine (rU32_any g l e _ h).mono ?_
  rintro x w1 ⟨v, l2, e2, hv, hl2, he2, rfl, hR, hK⟩
  have hvb : v ≤ 4294967295 := by
    have h1 := num_lt (nxB l e 4)
    have h2 := Nat.pow_le_pow_right (show 0 < 256 by omega) (nxB_len l e 4)
    rw [hv.out]
    omega
  have H1 := Lib.hid hR
  obtain ⟨A, n, c, hb, hr, hn, hc, hst⟩ := hR
  have c1 := hb.cell 1 _ rfl
  clear hb
  by_cases hbad : dtBad l e most
  · have h0 : e2 = 0 := by rw [he2.out]; exact hbad.1
    have hlt : most < v := by rw [hv.out]; exact hbad.2
    subst h0
    have HBAD := Lib.hid hbad
    clear hbad
    go_wp2_with fail
    refine (fail_any g l2 0 4 _ H1.out).mono ?_
    rintro x w2 ⟨rfl, hR2, hK2⟩
    go_wp2_with fail
    refine (next_any g [] 4 v _ hR2 (by omega)).mono ?_
    rintro x w3 ⟨A3, m, c3, l3, l4, e4, hl3, hl4, he4, rfl, hr3, hmc, hcm, hR3, hK3⟩
    have hm : m ≤ 1073741824 := by
      rw [← hr3.len, hl3.out]
      exact Nat.le_trans (nxB_le _ _ _) (by simp)
    go_wp2_with fail
    refine (clone_any A3 m c3 l3 _ (hr3.more (Nat.le_of_lt hR3.lt)) hm).mono ?_
    rintro x w5 ⟨A5, n5, c5, l5, hl5, rfl, hown5, hb5⟩
    go_wp2
    go_ret
    have e1 : l3 = [] := by rw [hl3.out]; rfl
    have e2 : l4 = [] := by rw [hl4.out]; rfl
    refine ⟨A5, n5, c5, l5, l4, e4, ?_, ?_, ?_, rfl, hown5.lower (Nat.le_trans hK.size (Nat.le_trans hK2.size hK3.size)), hR3.up hb5, ((hK.trans hK2).trans hK3).trans (.of_below hb5)⟩
    · show _ = _; rw [hl5.out, e1]; unfold dtB; rw [if_pos HBAD.out]
    · show _ = _; rw [e2]; unfold dtL; rw [if_pos HBAD.out]
    · show _ = _; rw [he4.out]; unfold dtE; rw [if_pos HBAD.out]; rfl
  · have HBAD := Lib.hid hbad
    by_cases h0 : e2 = 0
    all_goals
      first
        | (have hle : ¬ (most < v) := by
             intro hh; apply hbad; unfold dtBad; rw [← he2.out, ← hv.out]; exact ⟨h0, hh⟩
           subst h0
           clear hbad
           go_wp2_with fail
           refine (next_any g l2 0 v _ H1.out (by omega)).mono ?_)
        | (have hd : (e2 == 0) = false := by simpa using h0
           clear hbad h0
           go_wp2_with fail
           refine (next_any g l2 e2 v _ H1.out (by omega)).mono ?_)
      rintro x w2 ⟨A3, m, c3, l3, l4, e4, hl3, hl4, he4, rfl, hr3, hmc, hcm, hR3, hK3⟩
      have hm : m ≤ 1073741824 := by
        rw [← hr3.len, hl3.out]
        exact Nat.le_trans (nxB_le _ _ _) (by rw [hl2.out]; exact Nat.le_trans (nxL_le _ _ _) (by omega))
      go_wp2_with fail
      refine (clone_any A3 m c3 l3 _ (hr3.more (Nat.le_of_lt hR3.lt)) hm).mono ?_
      rintro x w5 ⟨A5, n5, c5, l5, hl5, rfl, hown5, hb5⟩
      go_wp2
      go_ret
      refine ⟨A5, n5, c5, l5, l4, e4, ?_, ?_, ?_, rfl, hown5.lower (Nat.le_trans hK.size hK3.size), hR3.up hb5, (hK.trans hK3).trans (.of_below hb5)⟩
      · show _ = _; rw [hl5.out, hl3.out, hl2.out, he2.out, hv.out]; unfold dtB; rw [if_neg HBAD.out]
      · show _ = _; rw [hl4.out, hl2.out, he2.out, hv.out]; unfold dtL; rw [if_neg HBAD.out]
      · show _ = _; rw [he4.out, hl2.out, he2.out, hv.out]; unfold dtE; rw [if_neg HBAD.out]

/-- A reader's state: the bytes that are left, the error. -/
structure S18 where
  l : List UInt8
  e : Int
def vl (n : Nat) (s : S18) : Nat := num (nxB s.l s.e n)
def tk (n : Nat) (s : S18) : S18 := ⟨nxL s.l s.e n, nxE s.l s.e n⟩
theorem vl_lt (n : Nat) (s : S18) : vl n s < 256 ^ n := by
  have h1 := num_lt (nxB s.l s.e n)
  exact Nat.lt_of_lt_of_le h1 (Nat.pow_le_pow_right (show 0 < 256 by omega) (nxB_len s.l s.e n))
theorem tk_le (n : Nat) (s : S18) : (tk n s).l.length ≤ s.l.length := nxL_le s.l s.e n

/-- The reader in block g over the little reader in block gr. -/
def RrS (w : World) (g gr : Nat) (xs : List Value) (over wrong : Bool) (s : S18) : Prop :=
  Blk w g 76 (.pointer (some ⟨gr, 0, none⟩) :: (xs ++ [Value.bool over, Value.bool wrong])) ∧ xs.length = 18 ∧ Rdr w gr s.l s.e ∧ gr < g
section
variable {w w' : World} {g gr : Nat} {xs : List Value} {over wrong : Bool} {s : S18}
theorem two_g {g gr k : Nat} (hgr : gr < g) (h : g + 1 ≤ k) : ¬ Two18 g gr k := fun e => by
  rcases e with e | e <;> omega
theorem RrS.lt (h : RrS w g gr xs over wrong s) : g < w.heap.size := h.1.lt
theorem RrS.below {B : Nat} (h : RrS w g gr xs over wrong s) (k : Below B w w') (hB : g < B) : RrS w' g gr xs over wrong s := ⟨h.1.below k hB, h.2.1, h.2.2.1.below k (Nat.lt_trans h.2.2.2 hB), h.2.2.2⟩
theorem RrS.up (h : RrS w g gr xs over wrong s) (k : Below w.heap.size w w') : RrS w' g gr xs over wrong s := h.below k h.lt
theorem RrS.c0 (h : RrS w g gr xs over wrong s) : w.cell? ⟨g, 0, none⟩ = some (.pointer (some ⟨gr, 0, none⟩)) := h.1.cell 0 _ rfl
theorem rr_at {i : Nat} {v p : Value} (hx : xs.length = 18) (hv : xs[i]? = some v) : (p :: (xs ++ [Value.bool over, Value.bool wrong]))[i + 1]? = some v := by
  have := (List.getElem?_eq_some_iff.1 hv).1
  rw [List.getElem?_cons_succ, List.getElem?_append_left this, hv]
theorem RrS.c19 (h : RrS w g gr xs over wrong s) : w.cell? ⟨g, 19, none⟩ = some (.bool over) := h.1.cell 19 _ (by rw [List.getElem?_cons_succ, List.getElem?_append_right (by have := h.2.1; omega), h.2.1]; rfl)
theorem RrS.c20 (h : RrS w g gr xs over wrong s) : w.cell? ⟨g, 20, none⟩ = some (.bool wrong) := h.1.cell 20 _ (by rw [List.getElem?_cons_succ, List.getElem?_append_right (by have := h.2.1; omega), h.2.1]; rfl)
theorem RrS.next {s' : S18} (h : RrS w g gr xs over wrong s) (hr : Rdr w' gr s'.l s'.e) (k : Keeps (Is gr) w w') : RrS w' g gr xs over wrong s' :=
  ⟨h.1.keeps k (fun e => by have e' : g = gr := e; have := h.2.2.2; omega), h.2.1, hr, h.2.2.2⟩
theorem RrS.kg (h : RrS w g gr xs over wrong s) {i : Nat} (v : Value) : Rdr (w.setCell ⟨g, i, none⟩ v) gr s.l s.e := h.2.2.1.keeps ((Keeps.refl (Is g) _).setCell (p := ⟨g, i, none⟩) (.inl rfl) _) (fun k hk e => by have e' : k = g := e; have := h.2.2.2; omega)
theorem RrS.mark (h : RrS w g gr xs over wrong s) (b : Bool) : RrS (w.setCell ⟨g, 20, none⟩ (.bool b)) g gr xs over b s := by
  refine ⟨?_, h.2.1, h.kg _, h.2.2.2⟩
  have := h.1.set 20 (.bool b)
  rwa [List.set_cons_succ, List.set_append_right _ _ (by have := h.2.1; omega), h.2.1] at this
theorem RrS.over19 (h : RrS w g gr xs over wrong s) (b : Bool) : RrS (w.setCell ⟨g, 19, none⟩ (.bool b)) g gr xs b wrong s := by
  refine ⟨?_, h.2.1, h.kg _, h.2.2.2⟩
  have := h.1.set 19 (.bool b)
  rwa [List.set_cons_succ, List.set_append_right _ _ (by have := h.2.1; omega), h.2.1] at this
theorem RrS.field (h : RrS w g gr xs over wrong s) {i : Nat} (hi : i < 18) (v : Value) : RrS (w.setCell ⟨g, i + 1, none⟩ v) g gr (xs.set i v) over wrong s := by
  refine ⟨?_, by simp [h.2.1], h.kg _, h.2.2.2⟩
  have := h.1.set (i + 1) v
  rwa [List.set_cons_succ, List.set_append_left _ _ (by have := h.2.1; omega)] at this
theorem Keeps.two (h : Keeps (Is gr) w w') : Keeps (Two18 g gr) w w' := h.mono fun k _ e => .inr e
theorem Keeps.twog (h : Keeps (Is g) w w') : Keeps (Two18 g gr) w w' := h.mono fun k _ e => .inl e
theorem Keeps.thenB {G : Nat → Prop} {w2 : World} (h : Keeps G w w') (k : Below w.heap.size w' w2) : Keeps G w w2 :=
  ⟨k.os.trans h.os, k.tape.trans h.tape, k.output.trans h.output, Nat.le_trans h.size k.size, fun i hi hn => (k.block i hi).trans (h.block i hi hn)⟩
end

/-- A qid that is read; is it of no kind; what is left. -/
def qidV (s : S18) : QidV := ⟨decide (vl 1 s = 128), (vl 4 (tk 1 s) : Int), RowKit.wrap64 (vl 8 (tk 4 (tk 1 s)) : Int)⟩
def qidW (s : S18) : Bool := decide (vl 1 s ≠ 0) && decide (vl 1 s ≠ 128)
def qidS (s : S18) : S18 := tk 8 (tk 4 (tk 1 s))
theorem qidT_agg (w : World) : (isAgg 23).run Try.prog w = .ok true w := by kernel_rfl
theorem statT_agg (w : World) : (isAgg 27).run Try.prog w = .ok true w := by kernel_rfl

def RQidPost (g gr : Nat) (xs : List Value) (over wrong : Bool) (s : S18) (w : World) (e : Ending) (w' : World) : Prop :=
  ∃ (q : QidV) (b : Bool) (s' : S18), Hid (q = qidV s) ∧ Hid (b = (wrong || qidW s)) ∧ Hid (s' = qidS s) ∧ e = .returned (.agg #[.bool q.dir, .int .i64 q.ver, .int .i64 q.path]) ∧ RrS w' g gr xs over b s' ∧ Keeps (Two18 g gr) w w'

set_option maxRecDepth 20000 in
set_option maxHeartbeats 4000000 in
theorem rQid_any (g gr : Nat) (xs : List Value) (over wrong : Bool) (s : S18) (w : World) (h : RrS w g gr xs over wrong s) :
    Calls Try.prog 67 #[.pointer (some ⟨g, 0, none⟩)] w (RQidPost g gr xs over wrong s w) := by
  have hZ0 := Blk.new w 23 [.bool false, .int .i64 0, .int .i64 0]
  have hgl := h.lt
  have hgr := h.2.2.2
  obtain ⟨W, hW⟩ : ∃ W, W = w.alloc (.cells #[.bool false, .int .i64 0, .int .i64 0] 23) := ⟨_, rfl⟩
  have hW' : W = w.alloc (.cells [.bool false, .int .i64 0, .int .i64 0].toArray 23) := hW
  have h0 : RrS W g gr xs over wrong s := by rw [hW]; exact h.up ((Below.refl _ _).alloc (Nat.le_refl _) _)
  have hk0 : Keeps (Two18 g gr) w W := by rw [hW]; exact (Keeps.refl _ _).alloc _
  rw [← hW'] at hZ0
  obtain ⟨Z, hZ⟩ : ∃ Z, Z = w.heap.size := ⟨_, rfl⟩
  rw [← hZ] at hZ0
  have hZg : g < Z := by omega
  have nZ : ¬ Is gr Z := fun e => by have e' : Z = gr := e; omega
  have nZg : ¬ Is g Z := fun e => by have e' : Z = g := e; omega
  have c0 := h0.c0
  have H0 := Lib.hid h0
  have HZ0 := Lib.hid hZ0
  have HK0 := Lib.hid hk0
  have HZe := Lib.hid hZ
  clear h h0 hZ0 hk0 hW'
  go_enter Try.func67, Try.ntmps67
  go_upto_region 1 with fail
  rw [← hW, ← hZ]
  clear hW hZ
  go_wp2_with fail
  refine (rU8_any gr s.l s.e _ H0.out.2.2.1).mono ?_
  rintro x w1 ⟨v1, l1, e1, hv1, hl1, he1, rfl, hR1, hK1⟩
  have H1 := Lib.hid (H0.out.next (s' := ⟨l1, e1⟩) hR1 hK1)
  have HZ1 := Lib.hid (HZ0.out.keeps hK1 nZ)
  have HK1 := Lib.hid (HK0.out.trans (Keeps.two (g := g) hK1))
  clear hR1 hK1 c0
  have c0 := H1.out.c0
  go_wp2_with fail
  refine (rU32_any gr l1 e1 _ H1.out.2.2.1).mono ?_
  rintro x w2 ⟨v2, l2, e2, hv2, hl2, he2, rfl, hR2, hK2⟩
  have H2 := Lib.hid (H1.out.next (s' := ⟨l2, e2⟩) hR2 hK2)
  have HZ2 := Lib.hid (HZ1.out.keeps hK2 nZ)
  have HK2 := Lib.hid (HK1.out.trans (Keeps.two (g := g) hK2))
  clear hR2 hK2 c0
  have c0 := H2.out.c0
  go_wp2_with fail
  refine (rU64_any gr l2 e2 _ H2.out.2.2.1).mono ?_
  rintro x w3 ⟨v3, l3, e3, hv3, hl3, he3, rfl, hR3, hK3⟩
  have H3 := Lib.hid (H2.out.next (s' := ⟨l3, e3⟩) hR3 hK3)
  have HZ3 := Lib.hid (HZ2.out.keeps hK3 nZ)
  have HK3 := Lib.hid (HK2.out.trans (Keeps.two (g := g) hK3))
  clear hR3 hK3 c0
  have hs1 : tk 1 s = ⟨l1, e1⟩ := by unfold tk; rw [hl1.out, he1.out]
  have hs2 : tk 4 (tk 1 s) = ⟨l2, e2⟩ := by rw [hs1]; unfold tk; rw [hl2.out, he2.out]
  have hs3 : qidS s = ⟨l3, e3⟩ := by unfold qidS; rw [hs2]; unfold tk; rw [hl3.out, he3.out]
  have hq1 : vl 1 s = v1 := by unfold vl; rw [hv1.out]
  have hq2 : vl 4 (tk 1 s) = v2 := by rw [hs1]; unfold vl; rw [hv2.out]
  have hq3 : vl 8 (tk 4 (tk 1 s)) = v3 := by rw [hs2]; unfold vl; rw [hv3.out]
  have b1 : v1 < 256 := by have := vl_lt 1 s; rw [hq1] at this; simpa using this
  have b2 : v2 < 4294967296 := by have := vl_lt 4 (tk 1 s); rw [hq2] at this; simpa using this
  have b3 : v3 < 18446744073709551616 := by have := vl_lt 8 (tk 4 (tk 1 s)); rw [hq3] at this; simpa using this
  obtain ⟨p, hp⟩ : ∃ p, RowKit.wrap64 (v3 : Int) = p := ⟨_, rfl⟩
  have HV := Lib.hid (show qidV s = ⟨decide (v1 = 128), v2, p⟩ by unfold qidV; rw [hq1, hq2, hq3, hp])
  have HWr := Lib.hid (show qidW s = (decide (v1 ≠ 0) && decide (v1 ≠ 128)) by unfold qidW; rw [hq1])
  have HS := Lib.hid hs3
  clear hs1 hs2 hs3 hq1 hq2 hq3 hv1 hv2 hv3 hl1 hl2 hl3 he1 he2 he3 H0 H1 H2 HZ0 HZ1 HZ2 HK0 HK1 HK2
  by_cases hz : v1 = 0
  · subst hz
    have hF := HZ3.out.setRow [.bool false, .int .i64 v2, .int .i64 p]
    have hks := keeps_setRow w3 (g := Z) #[.bool false, .int .i64 v2, .int .i64 p]
    have HR := Lib.hid (H3.out.below (hks.under (B := Z) (by have := HZ3.out.lt; omega) (fun k hk e => by have e' : k = Z := e; omega)) hZg)
    have HK := Lib.hid (HK3.out.thenB ((hks.under (B := w.heap.size) (by have := HZ3.out.lt; have := HZe.out; omega) (fun k hk e => by have e' : k = Z := e; have := HZe.out; omega))))
    go_wp2_with (refine wpList_storeBlk rfl (.tmp 2) (.tmp 36) rfl rfl [.bool false, .int .i64 v2, .int .i64 p] rfl rfl (by kernel_rfl) HZ3.out rfl (by simp [Value.oneCell']) ?_)
    exact bodyPost_ret (v := .agg #[.bool false, .int .i64 v2, .int .i64 p]) (results_cellBlk Try.results67 rfl hF (by kernel_rfl) qidT_agg) rfl ⟨⟨false, v2, p⟩, wrong, ⟨l3, e3⟩, Lib.hid (by rw [HV.out]; rfl), Lib.hid (by rw [HWr.out]; simp), Lib.hid HS.out.symm, rfl, HR.out, HK.out⟩
  · by_cases hz8 : v1 = 128
    · subst hz8
      have hF := HZ3.out.setRow [.bool true, .int .i64 v2, .int .i64 p]
      have hks := keeps_setRow w3 (g := Z) #[.bool true, .int .i64 v2, .int .i64 p]
      have HR := Lib.hid (H3.out.below (hks.under (B := Z) (by have := HZ3.out.lt; omega) (fun k hk e => by have e' : k = Z := e; omega)) hZg)
      have HK := Lib.hid (HK3.out.thenB ((hks.under (B := w.heap.size) (by have := HZ3.out.lt; have := HZe.out; omega) (fun k hk e => by have e' : k = Z := e; have := HZe.out; omega))))
      go_wp2_with (refine wpList_storeBlk rfl (.tmp 2) (.tmp 36) rfl rfl [.bool true, .int .i64 v2, .int .i64 p] rfl rfl (by kernel_rfl) HZ3.out rfl (by simp [Value.oneCell']) ?_)
      exact bodyPost_ret (v := .agg #[.bool true, .int .i64 v2, .int .i64 p]) (results_cellBlk Try.results67 rfl hF (by kernel_rfl) qidT_agg) rfl ⟨⟨true, v2, p⟩, wrong, ⟨l3, e3⟩, Lib.hid (by rw [HV.out]; rfl), Lib.hid (by rw [HWr.out]; simp), Lib.hid HS.out.symm, rfl, HR.out, HK.out⟩
    · have z0 : ((v1 : Int) != 0) = true := by simp; omega
      have z8 : ((v1 : Int) != 128) = true := by simp; omega
      have z9 : ((v1 : Int) == 128) = false := by simp; omega
      have c20 := H3.out.c20
      have f20 := H3.out.1.free 20
      have h4 := H3.out.mark true
      have hk4 : Keeps (Is g) w3 (w3.setCell ⟨g, 20, none⟩ (.bool true)) := (Keeps.refl (Is g) _).setCell (p := ⟨g, 20, none⟩) (.inl rfl) _
      have hZ4 := HZ3.out.keeps hk4 nZg
      have HK4 := Lib.hid (HK3.out.trans (Keeps.twog (gr := gr) hk4))
      have H4 := Lib.hid h4
      have HZ4 := Lib.hid hZ4
      clear h4 hZ4 hk4
      go_upto_region 6 with fail
      generalize w3.setCell ⟨g, 20, none⟩ (.bool true) = w4 at H4 HZ4 HK4 ⊢
      clear c20 f20
      have hF := HZ4.out.setRow [.bool false, .int .i64 v2, .int .i64 p]
      have hks := keeps_setRow w4 (g := Z) #[.bool false, .int .i64 v2, .int .i64 p]
      have HR := Lib.hid (H4.out.below (hks.under (B := Z) (by have := HZ4.out.lt; omega) (fun k hk e => by have e' : k = Z := e; omega)) hZg)
      have HK := Lib.hid (HK4.out.thenB ((hks.under (B := w.heap.size) (by have := HZ4.out.lt; have := HZe.out; omega) (fun k hk e => by have e' : k = Z := e; have := HZe.out; omega))))
      go_wp2_with (refine wpList_storeBlk rfl (.tmp 2) (.tmp 36) rfl rfl [.bool false, .int .i64 v2, .int .i64 p] rfl rfl (by kernel_rfl) HZ4.out rfl (by simp [Value.oneCell']) ?_)
      exact bodyPost_ret (v := .agg #[.bool false, .int .i64 v2, .int .i64 p]) (results_cellBlk Try.results67 rfl hF (by kernel_rfl) qidT_agg) rfl ⟨⟨false, v2, p⟩, true, ⟨l3, e3⟩, Lib.hid (by rw [HV.out, decide_eq_false hz8]), Lib.hid (by rw [HWr.out]; simp [hz, hz8]), Lib.hid HS.out.symm, rfl, HR.out, HK.out⟩

/-- Some qids that are read. -/
def qsV : Nat → S18 → List QidV
  | 0, _ => []
  | n + 1, s => qidV s :: qsV n (qidS s)
def qsW : Nat → S18 → Bool
  | 0, _ => false
  | n + 1, s => qidW s || qsW n (qidS s)
def qsS : Nat → S18 → S18
  | 0, s => s
  | n + 1, s => qsS n (qidS s)
theorem qsS_snoc : ∀ (n : Nat) (s : S18), qsS (n + 1) s = qidS (qsS n s)
  | 0, s => rfl
  | n + 1, s => by
    show qsS (n + 1) (qidS s) = qidS (qsS n (qidS s))
    exact qsS_snoc n (qidS s)
theorem qsV_snoc : ∀ (n : Nat) (s : S18), qsV (n + 1) s = qsV n s ++ [qidV (qsS n s)]
  | 0, s => rfl
  | n + 1, s => by
    show qidV s :: qsV (n + 1) (qidS s) = qidV s :: qsV n (qidS s) ++ [qidV (qsS n (qidS s))]
    rw [qsV_snoc n (qidS s)]; rfl
theorem qsW_snoc : ∀ (n : Nat) (s : S18), qsW (n + 1) s = (qsW n s || qidW (qsS n s))
  | 0, s => by simp [qsW, qsS]
  | n + 1, s => by
    show (qidW s || qsW (n + 1) (qidS s)) = ((qidW s || qsW n (qidS s)) || qidW (qsS n (qidS s)))
    rw [qsW_snoc n (qidS s), Bool.or_assoc]
theorem qsV_len : ∀ (n : Nat) (s : S18), (qsV n s).length = n
  | 0, _ => rfl
  | n + 1, s => by simp [qsV, qsV_len n]
def qsrV (s : S18) : List QidV := if vl 2 s ≤ 8 then qsV (vl 2 s) (tk 2 s) else []
def qsrW (s : S18) : Bool := if vl 2 s ≤ 8 then qsW (vl 2 s) (tk 2 s) else false
def qsrO (s : S18) : Bool := decide (8 < vl 2 s)
def qsrS (s : S18) : S18 := if vl 2 s ≤ 8 then qsS (vl 2 s) (tk 2 s) else tk 2 s
def RQidsPost (g gr : Nat) (xs : List Value) (over wrong : Bool) (s : S18) (w : World) (e : Ending) (w' : World) : Prop :=
  ∃ (A : Option Addr) (n c : Nat) (qs : List QidV) (ov wr : Bool) (s' : S18), Hid (qs = qsrV s) ∧ Hid (ov = (over || qsrO s)) ∧ Hid (wr = (wrong || qsrW s)) ∧ Hid (s' = qsrS s) ∧ e = .returned (.slice A n c) ∧ OwR w' w.heap.size 23 3 A n c (qs.map qidC) ∧ RrS w' g gr xs ov wr s' ∧ Keeps (Two18 g gr) w w'
def RqJ (g gr : Nat) (xs : List Value) (over wrong : Bool) (n : Nat) (s1 : S18) (w : World) (a' : Act) (w' : World) : Prop :=
  ∃ (j c : Nat) (A : Option Addr) (wr : Bool) (s' : S18), j ≤ n ∧ OwR w' w.heap.size 23 3 A j c ((qsV j s1).map qidC) ∧ Hid (wr = (wrong || qsW j s1)) ∧ Hid (s' = qsS j s1) ∧ RrS w' g gr xs over wr s' ∧ Keeps (Two18 g gr) w w' ∧
    ∃ (u1 u2 u5 u6 u7 u8 u9 u10 u11 u12 u13 u14 u15 u16 u17 u18 u19 u20 u21 u22 u23 u24 u25 : Value), a' = { tmps := #[.pointer (some ⟨g, 0, none⟩), u1, u2, .slice A j c, .int .i64 (n : Nat), u5, u6, u7, u8, u9, u10, u11, u12, u13, u14, u15, u16, u17, u18, u19, u20, u21, u22, u23, u24, u25], defers := [] }
def lenOf : Value → Nat | .slice _ n _ => n | _ => 0

set_option maxRecDepth 20000 in
set_option maxHeartbeats 8000000 in
theorem rQids_any (g gr : Nat) (xs : List Value) (over wrong : Bool) (s : S18) (w : World) (h : RrS w g gr xs over wrong s) :
    Calls Try.prog 68 #[.pointer (some ⟨g, 0, none⟩)] w (RQidsPost g gr xs over wrong s w) := by
  have hgl := h.lt
  have hgr := h.2.2.2
  obtain ⟨n, hn⟩ : ∃ n, n = vl 2 s := ⟨_, rfl⟩
  have hnb : n < 65536 := by have := vl_lt 2 s; rw [← hn] at this; simpa using this
  have c0 := h.c0
  have H := Lib.hid h
  have HN := Lib.hid hn
  clear h hn
  go_enter Try.func68, Try.ntmps68
  go_wp2
  refine wp_scope_jumps2 0 (fun a' w' => (n ≤ 8 → RqJ g gr xs over wrong n (tk 2 s) w a' w') ∧ n ≤ 8) (fun a' _ => n - lenOf (a'.tmps.getD 3 undef)) rfl ?_ ?_
  · rintro a' w' ⟨hJ, hn8⟩
    obtain ⟨j, c, A, wr, s', hj, ho, hwr, hs', hr, hk, u1, u2, u5, u6, u7, u8, u9, u10, u11, u12, u13, u14, u15, u16, u17, u18, u19, u20, u21, u22, u23, u24, u25, rfl⟩ := hJ hn8
    by_cases hlt : j < n
    · have j1 : (j : Int) < n := by omega
      have j2 : j < n := hlt
      have HO := Lib.hid ho
      have HR := Lib.hid hr
      have HK := Lib.hid hk
      have hsz : w.heap.size ≤ w'.heap.size := hk.size
      clear ho hr hk c0
      go_wp2_with fail
      refine (rQid_any g gr xs over wr s' _ HR.out).mono ?_
      rintro e w2 ⟨q, b, s2, hq, hb, hs2, rfl, hr2, hk2⟩
      have HR2 := Lib.hid hr2
      have HK2 := Lib.hid (HK.out.trans hk2)
      have HO2 := Lib.hid (show OwR w2 w.heap.size 23 3 A j c ((qsV j (tk 2 s)).map qidC) from OwR.keeps HO.out hk2 (fun k hk e => by rcases e with e | e <;> omega))
      have hs2z : w'.heap.size ≤ w2.heap.size := hk2.size
      obtain ⟨qd, qv, qp⟩ := q
      have Hsrc := Lib.hid (Src.oneR (P := Try.prog) w2 24 23 Try.underlying24 [.bool qd, .int .i64 qv, .int .i64 qp] rfl (by simp [Value.oneCell']) #[.bool qd, .int .i64 qv, .int .i64 qp] rfl 23)
      have hga : w.heap.size ≤ (w2.alloc (.cells #[.bool qd, .int .i64 qv, .int .i64 qp] 23)).heap.size := by simp; omega
      clear hr2 hk2
      go_wp2_with (at_builtin; go_must (refine wpList_appendR qidsElemS rfl (.tmp 20) (.tmp 23) 24 rfl w.heap.size A j c ((qsV j (tk 2 s)).map qidC) rfl (HO2.out.alloc _) _ rfl [.bool qd, .int .i64 qv, .int .i64 qp] rfl Hsrc.out (by omega) (by omega) hga ?_); intro A3 n3 c3 l3 w3 hl3 hn3 hown3 hb3 hg3; obtain rfl : n3 = j + 1 := hn3.out)
      go_step3
      have hl4 : l3 = (qsV (j + 1) (tk 2 s)).map qidC := by
        rw [hl3.out, qsV_snoc, List.map_append, ← hs'.out, ← hq.out]; rfl
      have hb4 : Below w.heap.size w2 w3 := ((Below.refl _ _).alloc (by omega) _).trans hb3
      have hr4 : RrS w3 g gr xs over b s2 := HR2.out.below hb4 hgl
      have hk4 := HK2.out.thenB hb4
      rw [hl4] at hown3
      refine ⟨rfl, ⟨fun _ => ⟨j + 1, c3, A3, b, s2, by omega, hown3, Lib.hid (by rw [hb.out, hwr.out, qsW_snoc, ← hs'.out, Bool.or_assoc]), Lib.hid (by rw [hs2.out, hs'.out, qsS_snoc]), hr4, hk4, _, _, _, _, _, _, _, _, _, _, _, _, _, _, _, _, _, _, _, _, _, _, _, rfl⟩, hn8⟩, ?_⟩
      simp [lenOf]; omega
    · obtain rfl : j = n := by omega
      have j1 : ¬ (j : Int) < j := by omega
      have HO := Lib.hid ho
      have HR := Lib.hid hr
      have HK := Lib.hid hk
      have h8 : vl 2 s ≤ 8 := by rw [← HN.out]; exact hn8
      have HQV := Lib.hid (show qsrV s = qsV j (tk 2 s) by unfold qsrV; rw [if_pos h8, ← HN.out])
      have HQW := Lib.hid (show qsrW s = qsW j (tk 2 s) by unfold qsrW; rw [if_pos h8, ← HN.out])
      have HQS := Lib.hid (show qsrS s = qsS j (tk 2 s) by unfold qsrS; rw [if_pos h8, ← HN.out])
      have HQO := Lib.hid (show qsrO s = false by unfold qsrO; exact decide_eq_false (by omega))
      clear ho hr hk c0 h8
      go_wp2
      simp only [Exit.jump]
      go_ret
      exact ⟨A, j, c, qsV j (tk 2 s), over, wr, s', Lib.hid HQV.out.symm, Lib.hid (by rw [HQO.out]; simp), Lib.hid (by rw [hwr.out, HQW.out]), Lib.hid (by rw [hs'.out, HQS.out]), rfl, HO.out, HR.out, HK.out⟩
  · intro hpass
    have HP := Lib.hid hpass
    clear hpass
    go_wp2_with fail
    refine (rU16_any gr s.l s.e _ H.out.2.2.1).mono ?_
    rintro x w1 ⟨v, l1, e1, hv, hl1, he1, rfl, hR1, hK1⟩
    have hvn : v = n := by rw [hv.out, HN.out]; rfl
    have hs1 : tk 2 s = ⟨l1, e1⟩ := by unfold tk; rw [hl1.out, he1.out]
    subst hvn
    have H1 := Lib.hid (H.out.next (s' := ⟨l1, e1⟩) hR1 hK1)
    have HK1 := Lib.hid (Keeps.two (g := g) hK1)
    have HS1 := Lib.hid hs1
    clear hR1 hK1 hs1 hl1 he1 hv c0
    by_cases hlong : 8 < v
    · have hli : (8 : Int) < v := by omega
      have c19 := H1.out.c19
      have f19 := H1.out.1.free 19
      have h2 := Lib.hid (H1.out.over19 true)
      have hk2 := Lib.hid (HK1.out.setCell (p := ⟨g, 19, none⟩) (.inl (.inl rfl)) (.bool true))
      have h8 : ¬ vl 2 s ≤ 8 := by rw [← HN.out]; omega
      have HQV := Lib.hid (show qsrV s = [] by unfold qsrV; rw [if_neg h8])
      have HQW := Lib.hid (show qsrW s = false by unfold qsrW; rw [if_neg h8])
      have HQS := Lib.hid (show qsrS s = tk 2 s by unfold qsrS; rw [if_neg h8])
      have HQO := Lib.hid (show qsrO s = true by unfold qsrO; exact decide_eq_true (by omega))
      clear h8
      go_wp2
      simp only [Exit.jump]
      go_ret
      exact ⟨none, 0, 0, [], true, wrong, ⟨l1, e1⟩, Lib.hid HQV.out.symm, Lib.hid (by rw [HQO.out]; simp), Lib.hid (by rw [HQW.out]; simp), Lib.hid (by rw [HQS.out, HS1.out]), rfl, OwR.nil _ _ _ _, h2.out, hk2.out⟩
    · have hli : ¬ (8 : Int) < v := by omega
      go_wp2
      go_step3
      rename_i hKK
      refine hKK _ _ (HP.out _ _ ⟨fun _ => ?_, by omega⟩)
      exact ⟨0, 0, none, wrong, ⟨l1, e1⟩, by omega, OwR.nil _ _ _ _, Lib.hid (by simp [qsW]), Lib.hid (by rw [HS1.out]; rfl), H1.out, HK1.out, _, _, _, _, _, _, _, _, _, _, _, _, _, _, _, _, _, _, _, _, _, _, _, rfl⟩

/-- A stat that is read. -/
def statS (s : S18) : S18 := ⟨txL (tk 8 (tk 4 (qidS s))).l (tk 8 (tk 4 (qidS s))).e, txE (tk 8 (tk 4 (qidS s))).l (tk 8 (tk 4 (qidS s))).e⟩
def statM (s : S18) : Int := (vl 4 (qidS s) : Int)
def statZ (s : S18) : Int := RowKit.wrap64 (vl 8 (tk 4 (qidS s)) : Int)
def statN (s : S18) : List UInt8 := txB (tk 8 (tk 4 (qidS s))).l (tk 8 (tk 4 (qidS s))).e
def RStatPost (g gr : Nat) (xs : List Value) (over wrong : Bool) (s : S18) (w : World) (e : Ending) (w' : World) : Prop :=
  ∃ (q : QidV) (m z : Int) (n : List UInt8) (b : Bool) (s' : S18), Hid (q = qidV s) ∧ Hid (m = statM s) ∧ Hid (z = statZ s) ∧ Hid (n = statN s) ∧ Hid (b = (wrong || qidW s)) ∧ Hid (s' = statS s) ∧ e = .returned (.agg #[.bool q.dir, .int .i64 q.ver, .int .i64 q.path, .int .i64 m, .int .i64 z, .string (st n)]) ∧ RrS w' g gr xs over b s' ∧ Keeps (Two18 g gr) w w'

set_option maxRecDepth 20000 in
set_option maxHeartbeats 8000000 in
theorem rStat_any (g gr : Nat) (xs : List Value) (over wrong : Bool) (s : S18) (w : World) (h : RrS w g gr xs over wrong s) :
    Calls Try.prog 70 #[.pointer (some ⟨g, 0, none⟩)] w (RStatPost g gr xs over wrong s w) := by
  have hZ0 := Blk.new w 27 [.bool false, .int .i64 0, .int .i64 0, .int .i64 0, .int .i64 0, .string ByteArray.empty]
  have hgl := h.lt
  have hgr := h.2.2.2
  obtain ⟨W, hW⟩ : ∃ W, W = w.alloc (.cells #[.bool false, .int .i64 0, .int .i64 0, .int .i64 0, .int .i64 0, .string ByteArray.empty] 27) := ⟨_, rfl⟩
  have hW' : W = w.alloc (.cells [.bool false, .int .i64 0, .int .i64 0, .int .i64 0, .int .i64 0, .string ByteArray.empty].toArray 27) := hW
  have hW2 : W = w.alloc (.cells #[.bool false, .int .i64 0, .int .i64 0, .int .i64 0, .int .i64 0, .string ⟨#[]⟩] 27) := hW
  have h0 : RrS W g gr xs over wrong s := by rw [hW]; exact h.up ((Below.refl _ _).alloc (Nat.le_refl _) _)
  have hk0 : Keeps (Two18 g gr) w W := by rw [hW]; exact (Keeps.refl _ _).alloc _
  rw [← hW'] at hZ0
  obtain ⟨Z, hZ⟩ : ∃ Z, Z = w.heap.size := ⟨_, rfl⟩
  rw [← hZ] at hZ0
  have hZg : g < Z := by omega
  have nZ : ¬ Two18 g gr Z := fun e => by rcases e with e | e <;> omega
  have nZr : ¬ Is gr Z := fun e => by have e' : Z = gr := e; omega
  have H0 := Lib.hid h0
  have HZ0 := Lib.hid hZ0
  have HK0 := Lib.hid hk0
  have HZe := Lib.hid hZ
  clear h h0 hZ0 hk0 hW' hW
  go_enter Try.func70, Try.ntmps70
  go_upto_region 1 with fail
  rw [← hW2, ← hZ]
  clear hW2 hZ
  go_wp2_with fail
  refine (rQid_any g gr xs over wrong s _ H0.out).mono ?_
  rintro e w1 ⟨⟨qd, qv, qp⟩, b, s1, hq, hb, hs1, rfl, hr1, hk1⟩
  have H1 := Lib.hid hr1
  have HZ1 := Lib.hid (HZ0.out.keeps hk1 nZ)
  have HK1 := Lib.hid (HK0.out.trans hk1)
  have hXZ := Blk.new w1 27 [.bool false, .int .i64 0, .int .i64 0, .int .i64 0, .int .i64 0, .string ByteArray.empty]
  have hXa : Blk (w1.alloc (.cells #[.bool false, .int .i64 0, .int .i64 0, .int .i64 0, .int .i64 0, .string ⟨#[]⟩] 27)) w1.heap.size 27 [.bool false, .int .i64 0, .int .i64 0, .int .i64 0, .int .i64 0, .string ByteArray.empty] := hXZ
  obtain ⟨gX, hgX⟩ : ∃ x, x = w1.heap.size := ⟨_, rfl⟩
  have hZX : Z < gX := by have := HZ1.out.lt; omega
  have hKs := keeps_setRow (w1.alloc (.cells #[.bool false, .int .i64 0, .int .i64 0, .int .i64 0, .int .i64 0, .string ⟨#[]⟩] 27)) (g := gX) #[.bool qd, .int .i64 qv, .int .i64 qp, .int .i64 0, .int .i64 0, .string ByteArray.empty]
  have hbk : Below w1.heap.size w1 ((w1.alloc (.cells #[.bool false, .int .i64 0, .int .i64 0, .int .i64 0, .int .i64 0, .string ⟨#[]⟩] 27)).setRow gX #[.bool qd, .int .i64 qv, .int .i64 qp, .int .i64 0, .int .i64 0, .string ByteArray.empty]) := ((Below.refl _ _).alloc (Nat.le_refl _) _).trans (hKs.is (by omega) (by rw [hgX]; simp))
  have hX2 : Blk ((w1.alloc (.cells #[.bool false, .int .i64 0, .int .i64 0, .int .i64 0, .int .i64 0, .string ⟨#[]⟩] 27)).setRow gX #[.bool qd, .int .i64 qv, .int .i64 qp, .int .i64 0, .int .i64 0, .string ByteArray.empty]) gX 27 [.bool qd, .int .i64 qv, .int .i64 qp, .int .i64 0, .int .i64 0, .string ByteArray.empty] := by rw [hgX]; exact hXa.setRow [.bool qd, .int .i64 qv, .int .i64 qp, .int .i64 0, .int .i64 0, .string ByteArray.empty]
  have H2 := Lib.hid (H1.out.up hbk)
  have HZ2 := Lib.hid (HZ1.out.up hbk)
  have HK2 := Lib.hid (HK1.out.trans (Keeps.of_below hbk))
  have HX2 := Lib.hid hX2
  have HGX := Lib.hid hgX
  clear hr1 hk1 hXZ hKs hbk hX2 hgX
  go_upto_region 2 with (refine wpList_storeBlk rfl (.tmp 3) (.tmp 6) rfl rfl [.bool qd, .int .i64 qv, .int .i64 qp, .int .i64 0, .int .i64 0, .string ByteArray.empty] rfl rfl (by kernel_rfl) hXa rfl (by simp [Value.oneCell']) ?_)
  rw [← HGX.out]
  generalize (w1.alloc (.cells #[.bool false, .int .i64 0, .int .i64 0, .int .i64 0, .int .i64 0, .string ⟨#[]⟩] 27)).setRow gX #[.bool qd, .int .i64 qv, .int .i64 qp, .int .i64 0, .int .i64 0, .string ByteArray.empty] = w2 at H2 HZ2 HK2 HX2 ⊢
  clear hXa
  have hgX' : gr < gX := by omega
  have nX : ¬ Is gr gX := fun e => by have e' : gX = gr := e; omega
  have c0 := H2.out.c0
  go_wp2_with fail
  refine (rU32_any gr s1.l s1.e _ H2.out.2.2.1).mono ?_
  rintro x w3 ⟨v2, l2, e2, hv2, hl2, he2, rfl, hR3, hK3⟩
  have hs2 : tk 4 s1 = ⟨l2, e2⟩ := by unfold tk; rw [hl2.out, he2.out]
  have hq2 : vl 4 s1 = v2 := by unfold vl; rw [hv2.out]
  have b2 : v2 < 4294967296 := by have := vl_lt 4 s1; rw [hq2] at this; simpa using this
  have h3 := H2.out.next (s' := ⟨l2, e2⟩) hR3 hK3
  have hX3 := HX2.out.keeps hK3 nX
  have x3 := hX3.cell 3 _ rfl
  have f3 := hX3.free 3
  have hX4 := hX3.set 3 (.int .i64 v2)
  have hk4 : Keeps (Is gX) w3 (w3.setCell ⟨gX, 3, none⟩ (.int .i64 v2)) := (Keeps.refl (Is gX) _).setCell (p := ⟨gX, 3, none⟩) (.inl rfl) _
  have H4 := Lib.hid (h3.below (hk4.under (B := gX) (by have := hX3.lt; omega) (fun k hk e => by have e' : k = gX := e; omega)) (by omega))
  have HZ4 := Lib.hid ((HZ2.out.keeps hK3 nZr).keeps hk4 (fun e => by have e' : Z = gX := e; omega))
  have HK4 := Lib.hid ((HK2.out.trans (Keeps.two (g := g) hK3)).thenB (hk4.under (B := w.heap.size) (by have := hX3.lt; have := HZe.out; omega) (fun k hk e => by have e' : k = gX := e; have := HZe.out; omega)))
  have HX4 := Lib.hid hX4
  have HS2 := Lib.hid hs2
  have HQ2 := Lib.hid hq2
  clear hR3 hK3 c0 h3 hX3 hX4 hk4 hs2 hq2 hv2 hl2 he2
  go_upto_region 3 with fail
  generalize w3.setCell ⟨gX, 3, none⟩ (.int .i64 v2) = w4 at H4 HZ4 HK4 HX4 ⊢
  clear x3 f3
  have c0 := H4.out.c0
  go_wp2_with fail
  refine (rU64_any gr l2 e2 _ H4.out.2.2.1).mono ?_
  rintro x w5 ⟨v3, l3, e3, hv3, hl3, he3, rfl, hR5, hK5⟩
  have hs3 : tk 8 (tk 4 s1) = ⟨l3, e3⟩ := by rw [HS2.out]; unfold tk; rw [hl3.out, he3.out]
  have hq3 : vl 8 (tk 4 s1) = v3 := by rw [HS2.out]; unfold vl; rw [hv3.out]
  have b3 : v3 < 18446744073709551616 := by have := vl_lt 8 (tk 4 s1); rw [hq3] at this; simpa using this
  obtain ⟨p, hp⟩ : ∃ p, RowKit.wrap64 (v3 : Int) = p := ⟨_, rfl⟩
  have h5 := H4.out.next (s' := ⟨l3, e3⟩) hR5 hK5
  have hX5 := HX4.out.keeps hK5 nX
  have x4 := hX5.cell 4 _ rfl
  have f4 := hX5.free 4
  have hX6 := hX5.set 4 (.int .i64 p)
  have hk6 : Keeps (Is gX) w5 (w5.setCell ⟨gX, 4, none⟩ (.int .i64 p)) := (Keeps.refl (Is gX) _).setCell (p := ⟨gX, 4, none⟩) (.inl rfl) _
  have H6 := Lib.hid (h5.below (hk6.under (B := gX) (by have := hX5.lt; omega) (fun k hk e => by have e' : k = gX := e; omega)) (by omega))
  have HZ6 := Lib.hid ((HZ4.out.keeps hK5 nZr).keeps hk6 (fun e => by have e' : Z = gX := e; omega))
  have HK6 := Lib.hid ((HK4.out.trans (Keeps.two (g := g) hK5)).thenB (hk6.under (B := w.heap.size) (by have := hX5.lt; have := HZe.out; omega) (fun k hk e => by have e' : k = gX := e; have := HZe.out; omega)))
  have HX6 := Lib.hid hX6
  have HS3 := Lib.hid hs3
  have HQ3 := Lib.hid (show RowKit.wrap64 (vl 8 (tk 4 s1) : Int) = p by rw [hq3, hp])
  clear hR5 hK5 c0 h5 hX5 hX6 hk6 hs3 hq3 hv3 hl3 he3
  go_upto_region 4 with fail
  generalize w5.setCell ⟨gX, 4, none⟩ (.int .i64 p) = w6 at H6 HZ6 HK6 HX6 ⊢
  clear x4 f4
  have c0 := H6.out.c0
  go_wp2_with fail
  refine (rText_any gr l3 e3 _ H6.out.2.2.1).mono ?_
  rintro x w7 ⟨n1, l4, e4, hn1, hl4, he4, rfl, hR7, hK7⟩
  have h7 := H6.out.next (s' := ⟨l4, e4⟩) hR7 hK7
  have hX7 := HX6.out.keeps hK7 nX
  have x5 := hX7.cell 5 _ rfl
  have f5 := hX7.free 5
  have hX8 := hX7.set 5 (.string (st n1))
  have hk8 : Keeps (Is gX) w7 (w7.setCell ⟨gX, 5, none⟩ (.string (st n1))) := (Keeps.refl (Is gX) _).setCell (p := ⟨gX, 5, none⟩) (.inl rfl) _
  have H8 := Lib.hid (h7.below (hk8.under (B := gX) (by have := hX7.lt; omega) (fun k hk e => by have e' : k = gX := e; omega)) (by omega))
  have HZ8 := Lib.hid ((HZ6.out.keeps hK7 nZr).keeps hk8 (fun e => by have e' : Z = gX := e; omega))
  have HK8 := Lib.hid ((HK6.out.trans (Keeps.two (g := g) hK7)).thenB (hk8.under (B := w.heap.size) (by have := hX7.lt; have := HZe.out; omega) (fun k hk e => by have e' : k = gX := e; have := HZe.out; omega)))
  have HX8 := Lib.hid hX8
  clear hR7 hK7 c0 h7 hX7 hX8 hk8
  go_upto_region 5 with fail
  generalize w7.setCell ⟨gX, 5, none⟩ (.string (st n1)) = w8 at H8 HZ8 HK8 HX8 ⊢
  clear x5 f5
  have hXf := HX8.out
  have hF := HZ8.out.setRow [.bool qd, .int .i64 qv, .int .i64 qp, .int .i64 v2, .int .i64 p, .string (st n1)]
  have hks := keeps_setRow w8 (g := Z) #[.bool qd, .int .i64 qv, .int .i64 qp, .int .i64 v2, .int .i64 p, .string (st n1)]
  have HR := Lib.hid (H8.out.below (hks.under (B := Z) (by have := HZ8.out.lt; omega) (fun k hk e => by have e' : k = Z := e; omega)) hZg)
  have HK := Lib.hid (HK8.out.thenB ((hks.under (B := w.heap.size) (by have := HZ8.out.lt; have := HZe.out; omega) (fun k hk e => by have e' : k = Z := e; have := HZe.out; omega))))
  go_wp2_with first
    | (refine wpList_loadBlk rfl (.tmp 3) rfl rfl (by kernel_rfl) statT_agg hXf ?_; simp only [Act.put, List.setIfInBounds_toArray, List.set_cons_succ, List.set_cons_zero])
    | (refine wpList_storeBlk rfl (.tmp 2) (.tmp 27) rfl rfl [.bool qd, .int .i64 qv, .int .i64 qp, .int .i64 v2, .int .i64 p, .string (st n1)] rfl rfl (by kernel_rfl) HZ8.out rfl (by simp [Value.oneCell']) ?_)
  refine bodyPost_ret (v := .agg #[.bool qd, .int .i64 qv, .int .i64 qp, .int .i64 v2, .int .i64 p, .string (st n1)]) (results_cellBlk Try.results70 rfl hF (by kernel_rfl) statT_agg) rfl ⟨⟨qd, qv, qp⟩, v2, p, n1, b, ⟨l4, e4⟩, hq, Lib.hid ?_, Lib.hid ?_, Lib.hid ?_, hb, Lib.hid ?_, rfl, HR.out, HK.out⟩
  · unfold statM; rw [← hs1.out, HQ2.out]
  · unfold statZ; rw [← hs1.out, HQ3.out]
  · unfold statN; rw [← hs1.out, HS3.out]; exact hn1.out
  · unfold statS; rw [← hs1.out, HS3.out, hl4.out, he4.out]

/-- The reader in block g holds the reply t; its Qids and Data are its own. -/
def RrT (w : World) (g gr : Nat) (t : TellV) (over wrong : Bool) (s : S18) : Prop :=
  ∃ Aq nq cq Ad nd cd, RrS w g gr (tellC t Aq nq cq Ad nd cd) over wrong s ∧ OwR w (g + 1) 23 3 Aq nq cq (t.qids.map qidC) ∧ OwB w (g + 1) Ad nd cd t.data
theorem RrT.lt {w : World} {g gr : Nat} {t : TellV} {over wrong : Bool} {s : S18} (h : RrT w g gr t over wrong s) : g < w.heap.size := by obtain ⟨_, _, _, _, _, _, h, _⟩ := h; exact h.lt
theorem RrT.gr {w : World} {g gr : Nat} {t : TellV} {over wrong : Bool} {s : S18} (h : RrT w g gr t over wrong s) : gr < g := by obtain ⟨_, _, _, _, _, _, h, _⟩ := h; exact h.2.2.2

/-- The reply, a part of which is read; what is left; is a qid of no kind; are there too many. -/
def rpT (k : Int) (t : TellV) (s : S18) : TellV :=
  if k = 0 then { t with msize := (vl 4 s : Int) } else if k = 1 then { t with iounit := (vl 4 s : Int) } else if k = 2 then { t with count := (vl 4 s : Int) } else if k = 3 then { t with code := (vl 2 s : Int) } else if k = 4 then { t with name := txB s.l s.e } else if k = 5 then { t with qid := qidV s } else if k = 6 then { t with qids := qsrV s } else if k = 7 then { t with data := dtB s.l s.e 1024 } else if k = 8 then { t with sqid := qidV s, smode := statM s, ssize := statZ s, sname := statN s } else t
def rpS (k : Int) (s : S18) : S18 :=
  if k = 0 then tk 4 s else if k = 1 then tk 4 s else if k = 2 then tk 4 s else if k = 3 then tk 2 s else if k = 4 then ⟨txL s.l s.e, txE s.l s.e⟩ else if k = 5 then qidS s else if k = 6 then qsrS s else if k = 7 then ⟨dtL s.l s.e 1024, dtE s.l s.e 1024⟩ else if k = 8 then statS s else s
def rpW (k : Int) (s : S18) : Bool := if k = 5 then qidW s else if k = 6 then qsrW s else if k = 8 then qidW s else false
def rpO (k : Int) (s : S18) : Bool := if k = 6 then qsrO s else false

def PartR (g gr : Nat) (t : TellV) (over wrong : Bool) (s : S18) (w : World) (e : Ending) (w' : World) : Prop :=
  e = .returned (.tuple #[]) ∧ ∃ t' ov wr s', Hid (t' = t) ∧ Hid (ov = over) ∧ Hid (wr = wrong) ∧ Hid (s' = s) ∧ RrT w' g gr t' ov wr s' ∧ Keeps (Two18 g gr) w w'


set_option maxRecDepth 20000 in
set_option maxHeartbeats 4000000 in
theorem rPart_0 (g gr : Nat) (t : TellV) (over wrong : Bool) (s : S18) (w : World) (h : RrT w g gr t over wrong s) (hsl : s.l.length ≤ 1048576) :
    Calls Try.prog 47 #[.pointer (some ⟨g, 0, none⟩), .int .i64 0] w (PartR g gr (rpT 0 t s) (over || rpO 0 s) (wrong || rpW 0 s) (rpS 0 s) w) := by
  obtain ⟨kind, tag, code, msize, iounit, count, name, ⟨qdir, qver, qpath⟩, qids, data, ⟨sdir, sver, spath⟩, smode, ssize, sname⟩ := t
  have hgl := h.lt
  have hgr := h.gr
  obtain ⟨Aq, nq, cq, Ad, nd, cd, hw, hq, hd⟩ := h
  have HQ := Lib.hid hq
  have HD := Lib.hid hd
  have HW := Lib.hid hw
  have c0 := hw.c0
  clear hw hq hd
  go_enter Try.func47, Try.ntmps47
  go_wp2_with fail
  refine (rU32_any gr s.l s.e _ HW.out.2.2.1).mono ?_
  rintro x w1 ⟨v, l1, e1, hv, hl1, he1, rfl, hR1, hK1⟩
  have hs1 : tk 4 s = ⟨l1, e1⟩ := by unfold tk; rw [hl1.out, he1.out]
  have hq1 : vl 4 s = v := by unfold vl; rw [hv.out]
  have b1 : v < 4294967296 := by have := vl_lt 4 s; rw [hq1] at this; simpa using this
  have HS1 := Lib.hid hs1
  have HQ1 := Lib.hid hq1
  clear hs1 hq1 hv hl1 he1
  have h1 := HW.out.next (s' := ⟨l1, e1⟩) hR1 hK1
  have x1 := h1.1.cell 4 _ (rr_at h1.2.1 rfl)
  have f1 := h1.1.free 4
  have hk2 : Keeps (Is g) w1 (w1.setCell ⟨g, 4, none⟩ (.int .i64 v)) := (Keeps.refl (Is g) _).setCell (p := ⟨g, 4, none⟩) (.inl rfl) _
  have HK2 := Lib.hid ((Keeps.two (g := g) hK1).trans (Keeps.twog (gr := gr) hk2))
  have H2 := Lib.hid (h1.field (i := 3) (by omega) (.int .i64 v))
  have HQ2 := Lib.hid (OwR.keeps HQ.out HK2.out (fun k hk => two_g hgr hk))
  have HD2 := Lib.hid (OwB.keeps HD.out HK2.out (fun k hk => two_g hgr hk))
  clear c0 hR1 hK1 h1 hk2
  go_wp2
  go_end0
  exact ⟨rfl, (⟨kind, tag, code, (v : Int), iounit, count, name, ⟨qdir, qver, qpath⟩, qids, data, ⟨sdir, sver, spath⟩, smode, ssize, sname⟩ : TellV), over, wrong, ⟨l1, e1⟩, Lib.hid (by rw [← HQ1.out]; rfl), Lib.hid (by simp [rpO]), Lib.hid (by simp [rpW]), Lib.hid (by rw [← HS1.out]; rfl), ⟨Aq, nq, cq, Ad, nd, cd, H2.out, HQ2.out, HD2.out⟩, HK2.out⟩

set_option maxRecDepth 20000 in
set_option maxHeartbeats 4000000 in
theorem rPart_1 (g gr : Nat) (t : TellV) (over wrong : Bool) (s : S18) (w : World) (h : RrT w g gr t over wrong s) (hsl : s.l.length ≤ 1048576) :
    Calls Try.prog 47 #[.pointer (some ⟨g, 0, none⟩), .int .i64 1] w (PartR g gr (rpT 1 t s) (over || rpO 1 s) (wrong || rpW 1 s) (rpS 1 s) w) := by
  obtain ⟨kind, tag, code, msize, iounit, count, name, ⟨qdir, qver, qpath⟩, qids, data, ⟨sdir, sver, spath⟩, smode, ssize, sname⟩ := t
  have hgl := h.lt
  have hgr := h.gr
  obtain ⟨Aq, nq, cq, Ad, nd, cd, hw, hq, hd⟩ := h
  have HQ := Lib.hid hq
  have HD := Lib.hid hd
  have HW := Lib.hid hw
  have c0 := hw.c0
  clear hw hq hd
  go_enter Try.func47, Try.ntmps47
  go_wp2_with fail
  refine (rU32_any gr s.l s.e _ HW.out.2.2.1).mono ?_
  rintro x w1 ⟨v, l1, e1, hv, hl1, he1, rfl, hR1, hK1⟩
  have hs1 : tk 4 s = ⟨l1, e1⟩ := by unfold tk; rw [hl1.out, he1.out]
  have hq1 : vl 4 s = v := by unfold vl; rw [hv.out]
  have b1 : v < 4294967296 := by have := vl_lt 4 s; rw [hq1] at this; simpa using this
  have HS1 := Lib.hid hs1
  have HQ1 := Lib.hid hq1
  clear hs1 hq1 hv hl1 he1
  have h1 := HW.out.next (s' := ⟨l1, e1⟩) hR1 hK1
  have x1 := h1.1.cell 5 _ (rr_at h1.2.1 rfl)
  have f1 := h1.1.free 5
  have hk2 : Keeps (Is g) w1 (w1.setCell ⟨g, 5, none⟩ (.int .i64 v)) := (Keeps.refl (Is g) _).setCell (p := ⟨g, 5, none⟩) (.inl rfl) _
  have HK2 := Lib.hid ((Keeps.two (g := g) hK1).trans (Keeps.twog (gr := gr) hk2))
  have H2 := Lib.hid (h1.field (i := 4) (by omega) (.int .i64 v))
  have HQ2 := Lib.hid (OwR.keeps HQ.out HK2.out (fun k hk => two_g hgr hk))
  have HD2 := Lib.hid (OwB.keeps HD.out HK2.out (fun k hk => two_g hgr hk))
  clear c0 hR1 hK1 h1 hk2
  go_wp2
  go_end0
  exact ⟨rfl, (⟨kind, tag, code, msize, (v : Int), count, name, ⟨qdir, qver, qpath⟩, qids, data, ⟨sdir, sver, spath⟩, smode, ssize, sname⟩ : TellV), over, wrong, ⟨l1, e1⟩, Lib.hid (by rw [← HQ1.out]; rfl), Lib.hid (by simp [rpO]), Lib.hid (by simp [rpW]), Lib.hid (by rw [← HS1.out]; rfl), ⟨Aq, nq, cq, Ad, nd, cd, H2.out, HQ2.out, HD2.out⟩, HK2.out⟩

set_option maxRecDepth 20000 in
set_option maxHeartbeats 4000000 in
theorem rPart_2 (g gr : Nat) (t : TellV) (over wrong : Bool) (s : S18) (w : World) (h : RrT w g gr t over wrong s) (hsl : s.l.length ≤ 1048576) :
    Calls Try.prog 47 #[.pointer (some ⟨g, 0, none⟩), .int .i64 2] w (PartR g gr (rpT 2 t s) (over || rpO 2 s) (wrong || rpW 2 s) (rpS 2 s) w) := by
  obtain ⟨kind, tag, code, msize, iounit, count, name, ⟨qdir, qver, qpath⟩, qids, data, ⟨sdir, sver, spath⟩, smode, ssize, sname⟩ := t
  have hgl := h.lt
  have hgr := h.gr
  obtain ⟨Aq, nq, cq, Ad, nd, cd, hw, hq, hd⟩ := h
  have HQ := Lib.hid hq
  have HD := Lib.hid hd
  have HW := Lib.hid hw
  have c0 := hw.c0
  clear hw hq hd
  go_enter Try.func47, Try.ntmps47
  go_wp2_with fail
  refine (rU32_any gr s.l s.e _ HW.out.2.2.1).mono ?_
  rintro x w1 ⟨v, l1, e1, hv, hl1, he1, rfl, hR1, hK1⟩
  have hs1 : tk 4 s = ⟨l1, e1⟩ := by unfold tk; rw [hl1.out, he1.out]
  have hq1 : vl 4 s = v := by unfold vl; rw [hv.out]
  have b1 : v < 4294967296 := by have := vl_lt 4 s; rw [hq1] at this; simpa using this
  have HS1 := Lib.hid hs1
  have HQ1 := Lib.hid hq1
  clear hs1 hq1 hv hl1 he1
  have h1 := HW.out.next (s' := ⟨l1, e1⟩) hR1 hK1
  have x1 := h1.1.cell 6 _ (rr_at h1.2.1 rfl)
  have f1 := h1.1.free 6
  have hk2 : Keeps (Is g) w1 (w1.setCell ⟨g, 6, none⟩ (.int .i64 v)) := (Keeps.refl (Is g) _).setCell (p := ⟨g, 6, none⟩) (.inl rfl) _
  have HK2 := Lib.hid ((Keeps.two (g := g) hK1).trans (Keeps.twog (gr := gr) hk2))
  have H2 := Lib.hid (h1.field (i := 5) (by omega) (.int .i64 v))
  have HQ2 := Lib.hid (OwR.keeps HQ.out HK2.out (fun k hk => two_g hgr hk))
  have HD2 := Lib.hid (OwB.keeps HD.out HK2.out (fun k hk => two_g hgr hk))
  clear c0 hR1 hK1 h1 hk2
  go_wp2
  go_end0
  exact ⟨rfl, (⟨kind, tag, code, msize, iounit, (v : Int), name, ⟨qdir, qver, qpath⟩, qids, data, ⟨sdir, sver, spath⟩, smode, ssize, sname⟩ : TellV), over, wrong, ⟨l1, e1⟩, Lib.hid (by rw [← HQ1.out]; rfl), Lib.hid (by simp [rpO]), Lib.hid (by simp [rpW]), Lib.hid (by rw [← HS1.out]; rfl), ⟨Aq, nq, cq, Ad, nd, cd, H2.out, HQ2.out, HD2.out⟩, HK2.out⟩

set_option maxRecDepth 20000 in
set_option maxHeartbeats 4000000 in
theorem rPart_3 (g gr : Nat) (t : TellV) (over wrong : Bool) (s : S18) (w : World) (h : RrT w g gr t over wrong s) (hsl : s.l.length ≤ 1048576) :
    Calls Try.prog 47 #[.pointer (some ⟨g, 0, none⟩), .int .i64 3] w (PartR g gr (rpT 3 t s) (over || rpO 3 s) (wrong || rpW 3 s) (rpS 3 s) w) := by
  obtain ⟨kind, tag, code, msize, iounit, count, name, ⟨qdir, qver, qpath⟩, qids, data, ⟨sdir, sver, spath⟩, smode, ssize, sname⟩ := t
  have hgl := h.lt
  have hgr := h.gr
  obtain ⟨Aq, nq, cq, Ad, nd, cd, hw, hq, hd⟩ := h
  have HQ := Lib.hid hq
  have HD := Lib.hid hd
  have HW := Lib.hid hw
  have c0 := hw.c0
  clear hw hq hd
  go_enter Try.func47, Try.ntmps47
  go_wp2_with fail
  refine (rU16_any gr s.l s.e _ HW.out.2.2.1).mono ?_
  rintro x w1 ⟨v, l1, e1, hv, hl1, he1, rfl, hR1, hK1⟩
  have hs1 : tk 2 s = ⟨l1, e1⟩ := by unfold tk; rw [hl1.out, he1.out]
  have hq1 : vl 2 s = v := by unfold vl; rw [hv.out]
  have b1 : v < 65536 := by have := vl_lt 2 s; rw [hq1] at this; simpa using this
  have HS1 := Lib.hid hs1
  have HQ1 := Lib.hid hq1
  clear hs1 hq1 hv hl1 he1
  have h1 := HW.out.next (s' := ⟨l1, e1⟩) hR1 hK1
  have x1 := h1.1.cell 3 _ (rr_at h1.2.1 rfl)
  have f1 := h1.1.free 3
  have hk2 : Keeps (Is g) w1 (w1.setCell ⟨g, 3, none⟩ (.int .i64 v)) := (Keeps.refl (Is g) _).setCell (p := ⟨g, 3, none⟩) (.inl rfl) _
  have HK2 := Lib.hid ((Keeps.two (g := g) hK1).trans (Keeps.twog (gr := gr) hk2))
  have H2 := Lib.hid (h1.field (i := 2) (by omega) (.int .i64 v))
  have HQ2 := Lib.hid (OwR.keeps HQ.out HK2.out (fun k hk => two_g hgr hk))
  have HD2 := Lib.hid (OwB.keeps HD.out HK2.out (fun k hk => two_g hgr hk))
  clear c0 hR1 hK1 h1 hk2
  go_wp2
  go_end0
  exact ⟨rfl, (⟨kind, tag, (v : Int), msize, iounit, count, name, ⟨qdir, qver, qpath⟩, qids, data, ⟨sdir, sver, spath⟩, smode, ssize, sname⟩ : TellV), over, wrong, ⟨l1, e1⟩, Lib.hid (by rw [← HQ1.out]; rfl), Lib.hid (by simp [rpO]), Lib.hid (by simp [rpW]), Lib.hid (by rw [← HS1.out]; rfl), ⟨Aq, nq, cq, Ad, nd, cd, H2.out, HQ2.out, HD2.out⟩, HK2.out⟩

set_option maxRecDepth 20000 in
set_option maxHeartbeats 4000000 in
theorem rPart_4 (g gr : Nat) (t : TellV) (over wrong : Bool) (s : S18) (w : World) (h : RrT w g gr t over wrong s) (hsl : s.l.length ≤ 1048576) :
    Calls Try.prog 47 #[.pointer (some ⟨g, 0, none⟩), .int .i64 4] w (PartR g gr (rpT 4 t s) (over || rpO 4 s) (wrong || rpW 4 s) (rpS 4 s) w) := by
  obtain ⟨kind, tag, code, msize, iounit, count, name, ⟨qdir, qver, qpath⟩, qids, data, ⟨sdir, sver, spath⟩, smode, ssize, sname⟩ := t
  have hgl := h.lt
  have hgr := h.gr
  obtain ⟨Aq, nq, cq, Ad, nd, cd, hw, hq, hd⟩ := h
  have HQ := Lib.hid hq
  have HD := Lib.hid hd
  have HW := Lib.hid hw
  have c0 := hw.c0
  clear hw hq hd
  go_enter Try.func47, Try.ntmps47
  go_wp2_with fail
  refine (rText_any gr s.l s.e _ HW.out.2.2.1).mono ?_
  rintro x w1 ⟨v, l1, e1, hv, hl1, he1, rfl, hR1, hK1⟩
  have h1 := HW.out.next (s' := ⟨l1, e1⟩) hR1 hK1
  have x1 := h1.1.cell 7 _ (rr_at h1.2.1 rfl)
  have f1 := h1.1.free 7
  have hk2 : Keeps (Is g) w1 (w1.setCell ⟨g, 7, none⟩ (.string (st v))) := (Keeps.refl (Is g) _).setCell (p := ⟨g, 7, none⟩) (.inl rfl) _
  have HK2 := Lib.hid ((Keeps.two (g := g) hK1).trans (Keeps.twog (gr := gr) hk2))
  have H2 := Lib.hid (h1.field (i := 6) (by omega) (.string (st v)))
  have HQ2 := Lib.hid (OwR.keeps HQ.out HK2.out (fun k hk => two_g hgr hk))
  have HD2 := Lib.hid (OwB.keeps HD.out HK2.out (fun k hk => two_g hgr hk))
  clear c0 hR1 hK1 h1 hk2
  go_wp2
  go_end0
  exact ⟨rfl, (⟨kind, tag, code, msize, iounit, count, v, ⟨qdir, qver, qpath⟩, qids, data, ⟨sdir, sver, spath⟩, smode, ssize, sname⟩ : TellV), over, wrong, ⟨l1, e1⟩, Lib.hid (by rw [hv.out]; rfl), Lib.hid (by simp [rpO]), Lib.hid (by simp [rpW]), Lib.hid (by rw [hl1.out, he1.out]; rfl), ⟨Aq, nq, cq, Ad, nd, cd, H2.out, HQ2.out, HD2.out⟩, HK2.out⟩

set_option maxRecDepth 20000 in
set_option maxHeartbeats 4000000 in
theorem rPart_5 (g gr : Nat) (t : TellV) (over wrong : Bool) (s : S18) (w : World) (h : RrT w g gr t over wrong s) (hsl : s.l.length ≤ 1048576) :
    Calls Try.prog 47 #[.pointer (some ⟨g, 0, none⟩), .int .i64 5] w (PartR g gr (rpT 5 t s) (over || rpO 5 s) (wrong || rpW 5 s) (rpS 5 s) w) := by
  obtain ⟨kind, tag, code, msize, iounit, count, name, ⟨qdir, qver, qpath⟩, qids, data, ⟨sdir, sver, spath⟩, smode, ssize, sname⟩ := t
  have hgl := h.lt
  have hgr := h.gr
  obtain ⟨Aq, nq, cq, Ad, nd, cd, hw, hq, hd⟩ := h
  have HQ := Lib.hid hq
  have HD := Lib.hid hd
  have HW := Lib.hid hw
  have c0 := hw.c0
  clear hw hq hd
  have c0' := c0
  clear c0'
  go_enter Try.func47, Try.ntmps47
  go_wp2_with fail
  refine (rQid_any g gr _ over wrong s _ HW.out).mono ?_
  rintro e w1 ⟨⟨qd, qv, qp⟩, b, s', hqv, hb, hs', rfl, hr1, hk1⟩
  have HQ1 := Lib.hid (OwR.keeps HQ.out hk1 (fun k hk => two_g hgr hk))
  have HD1 := Lib.hid (OwB.keeps HD.out hk1 (fun k hk => two_g hgr hk))
  have hB1 := hr1.1
  have hs := hB1.setRow (.pointer (some ⟨gr, 0, none⟩) :: (tellC (⟨kind, tag, code, msize, iounit, count, name, ⟨qd, qv, qp⟩, qids, data, ⟨sdir, sver, spath⟩, smode, ssize, sname⟩ : TellV) Aq nq cq Ad nd cd ++ [Value.bool over, Value.bool b]))
  have hks := keeps_setRow w1 (g := g) (.pointer (some ⟨gr, 0, none⟩) :: (tellC (⟨kind, tag, code, msize, iounit, count, name, ⟨qd, qv, qp⟩, qids, data, ⟨sdir, sver, spath⟩, smode, ssize, sname⟩ : TellV) Aq nq cq Ad nd cd ++ [Value.bool over, Value.bool b])).toArray
  have HK2 := Lib.hid (hk1.trans (Keeps.twog (gr := gr) hks))
  have H2 := Lib.hid (show RrS (w1.setRow g (.pointer (some ⟨gr, 0, none⟩) :: (tellC (⟨kind, tag, code, msize, iounit, count, name, ⟨qd, qv, qp⟩, qids, data, ⟨sdir, sver, spath⟩, smode, ssize, sname⟩ : TellV) Aq nq cq Ad nd cd ++ [Value.bool over, Value.bool b])).toArray) g gr (tellC (⟨kind, tag, code, msize, iounit, count, name, ⟨qd, qv, qp⟩, qids, data, ⟨sdir, sver, spath⟩, smode, ssize, sname⟩ : TellV) Aq nq cq Ad nd cd) over b s' from ⟨hs, rfl, hr1.2.2.1.keeps hks (fun k hk e => by have e' : k = g := e; omega), hgr⟩)
  have HQ2 := Lib.hid (OwR.keeps HQ1.out hks (fun k hk e => by have e' : k = g := e; omega))
  have HD2 := Lib.hid (OwB.keeps HD1.out hks (fun k hk e => by have e' : k = g := e; omega))
  clear c0 hr1 hk1 hs hks
  go_wp2_with (refine wpList_storeMid8 rfl (.tmp 69) (.tmp 67) rfl rfl [.bool qd, .int .i64 qv, .int .i64 qp] (.pointer (some ⟨gr, 0, none⟩) :: (tellC (⟨kind, tag, code, msize, iounit, count, name, ⟨qd, qv, qp⟩, qids, data, ⟨sdir, sver, spath⟩, smode, ssize, sname⟩ : TellV) Aq nq cq Ad nd cd ++ [Value.bool over, Value.bool b])) rfl rfl (by kernel_rfl) hB1 (by simp [tellC]) (by simp [Value.oneCell']) rfl ?_)
  go_end0
  exact ⟨rfl, (⟨kind, tag, code, msize, iounit, count, name, ⟨qd, qv, qp⟩, qids, data, ⟨sdir, sver, spath⟩, smode, ssize, sname⟩ : TellV), over, b, s', Lib.hid (by rw [hqv.out]; rfl), Lib.hid (by simp [rpO]), Lib.hid (by rw [hb.out]; rfl), Lib.hid (by rw [hs'.out]; rfl), ⟨Aq, nq, cq, Ad, nd, cd, H2.out, HQ2.out, HD2.out⟩, HK2.out⟩

set_option maxRecDepth 20000 in
set_option maxHeartbeats 4000000 in
theorem rPart_6 (g gr : Nat) (t : TellV) (over wrong : Bool) (s : S18) (w : World) (h : RrT w g gr t over wrong s) (hsl : s.l.length ≤ 1048576) :
    Calls Try.prog 47 #[.pointer (some ⟨g, 0, none⟩), .int .i64 6] w (PartR g gr (rpT 6 t s) (over || rpO 6 s) (wrong || rpW 6 s) (rpS 6 s) w) := by
  obtain ⟨kind, tag, code, msize, iounit, count, name, ⟨qdir, qver, qpath⟩, qids, data, ⟨sdir, sver, spath⟩, smode, ssize, sname⟩ := t
  have hgl := h.lt
  have hgr := h.gr
  obtain ⟨Aq, nq, cq, Ad, nd, cd, hw, hq, hd⟩ := h
  have HQ := Lib.hid hq
  have HD := Lib.hid hd
  have HW := Lib.hid hw
  have c0 := hw.c0
  clear hw hq hd
  go_enter Try.func47, Try.ntmps47
  go_wp2_with fail
  refine (rQids_any g gr _ over wrong s _ HW.out).mono ?_
  rintro e w1 ⟨A, n, c, qs, ov, wr, s', hqs, hov, hwr, hs', rfl, hoq, hr1, hk1⟩
  have x1 := hr1.1.cell 11 _ (rr_at hr1.2.1 rfl)
  have f1 := hr1.1.free 11
  have hk2 : Keeps (Is g) w1 (w1.setCell ⟨g, 11, none⟩ (.slice A n c)) := (Keeps.refl (Is g) _).setCell (p := ⟨g, 11, none⟩) (.inl rfl) _
  have HK2 := Lib.hid (hk1.trans (Keeps.twog (gr := gr) hk2))
  have H2 := Lib.hid (hr1.field (i := 10) (by omega) (.slice A n c))
  have HQ2 := Lib.hid (OwR.keeps (hoq.lower (by omega : g + 1 ≤ w.heap.size)) hk2 (fun k hk e => by have e' : k = g := e; omega))
  have HD2 := Lib.hid (OwB.keeps HD.out HK2.out (fun k hk => two_g hgr hk))
  clear c0 hr1 hk1 hk2 hoq
  go_wp2
  go_end0
  exact ⟨rfl, (⟨kind, tag, code, msize, iounit, count, name, ⟨qdir, qver, qpath⟩, qs, data, ⟨sdir, sver, spath⟩, smode, ssize, sname⟩ : TellV), ov, wr, s', Lib.hid (by rw [hqs.out]; rfl), Lib.hid (by rw [hov.out]; rfl), Lib.hid (by rw [hwr.out]; rfl), Lib.hid (by rw [hs'.out]; rfl), ⟨A, n, c, Ad, nd, cd, H2.out, HQ2.out, HD2.out⟩, HK2.out⟩

set_option maxRecDepth 20000 in
set_option maxHeartbeats 4000000 in
theorem rPart_7 (g gr : Nat) (t : TellV) (over wrong : Bool) (s : S18) (w : World) (h : RrT w g gr t over wrong s) (hsl : s.l.length ≤ 1048576) :
    Calls Try.prog 47 #[.pointer (some ⟨g, 0, none⟩), .int .i64 7] w (PartR g gr (rpT 7 t s) (over || rpO 7 s) (wrong || rpW 7 s) (rpS 7 s) w) := by
  obtain ⟨kind, tag, code, msize, iounit, count, name, ⟨qdir, qver, qpath⟩, qids, data, ⟨sdir, sver, spath⟩, smode, ssize, sname⟩ := t
  have hgl := h.lt
  have hgr := h.gr
  obtain ⟨Aq, nq, cq, Ad, nd, cd, hw, hq, hd⟩ := h
  have HQ := Lib.hid hq
  have HD := Lib.hid hd
  have HW := Lib.hid hw
  have c0 := hw.c0
  clear hw hq hd
  go_enter Try.func47, Try.ntmps47
  go_wp2_with fail
  refine (rData_any gr s.l s.e 1024 _ HW.out.2.2.1 (by omega) (by omega) hsl).mono ?_
  rintro x w1 ⟨A, n, c, v, l1, e1, hv, hl1, he1, rfl, hod, hR1, hK1⟩
  have h1 := HW.out.next (s' := ⟨l1, e1⟩) hR1 hK1
  have x1 := h1.1.cell 12 _ (rr_at h1.2.1 rfl)
  have f1 := h1.1.free 12
  have hk2 : Keeps (Is g) w1 (w1.setCell ⟨g, 12, none⟩ (.slice A n c)) := (Keeps.refl (Is g) _).setCell (p := ⟨g, 12, none⟩) (.inl rfl) _
  have HK2 := Lib.hid ((Keeps.two (g := g) hK1).trans (Keeps.twog (gr := gr) hk2))
  have H2 := Lib.hid (h1.field (i := 11) (by omega) (.slice A n c))
  have HQ2 := Lib.hid (OwR.keeps HQ.out HK2.out (fun k hk => two_g hgr hk))
  have HD2 := Lib.hid (OwB.keeps (OwB.lower hod (by omega : g + 1 ≤ w.heap.size)) hk2 (fun k hk e => by have e' : k = g := e; omega))
  clear c0 hR1 hK1 h1 hk2 hod
  go_wp2
  go_end0
  exact ⟨rfl, (⟨kind, tag, code, msize, iounit, count, name, ⟨qdir, qver, qpath⟩, qids, v, ⟨sdir, sver, spath⟩, smode, ssize, sname⟩ : TellV), over, wrong, ⟨l1, e1⟩, Lib.hid (by rw [hv.out]; rfl), Lib.hid (by simp [rpO]), Lib.hid (by simp [rpW]), Lib.hid (by rw [hl1.out, he1.out]; rfl), ⟨Aq, nq, cq, A, n, c, H2.out, HQ2.out, HD2.out⟩, HK2.out⟩

set_option maxRecDepth 20000 in
set_option maxHeartbeats 4000000 in
theorem rPart_8 (g gr : Nat) (t : TellV) (over wrong : Bool) (s : S18) (w : World) (h : RrT w g gr t over wrong s) (hsl : s.l.length ≤ 1048576) :
    Calls Try.prog 47 #[.pointer (some ⟨g, 0, none⟩), .int .i64 8] w (PartR g gr (rpT 8 t s) (over || rpO 8 s) (wrong || rpW 8 s) (rpS 8 s) w) := by
  obtain ⟨kind, tag, code, msize, iounit, count, name, ⟨qdir, qver, qpath⟩, qids, data, ⟨sdir, sver, spath⟩, smode, ssize, sname⟩ := t
  have hgl := h.lt
  have hgr := h.gr
  obtain ⟨Aq, nq, cq, Ad, nd, cd, hw, hq, hd⟩ := h
  have HQ := Lib.hid hq
  have HD := Lib.hid hd
  have HW := Lib.hid hw
  have c0 := hw.c0
  clear hw hq hd
  have c0' := c0
  clear c0'
  go_enter Try.func47, Try.ntmps47
  go_wp2_with fail
  refine (rStat_any g gr _ over wrong s _ HW.out).mono ?_
  rintro e w1 ⟨⟨qd, qv, qp⟩, m, z, n, b, s', hqv, hm, hz, hn, hb, hs', rfl, hr1, hk1⟩
  have HQ1 := Lib.hid (OwR.keeps HQ.out hk1 (fun k hk => two_g hgr hk))
  have HD1 := Lib.hid (OwB.keeps HD.out hk1 (fun k hk => two_g hgr hk))
  have hB1 := hr1.1
  have hs := hB1.setRow (.pointer (some ⟨gr, 0, none⟩) :: (tellC (⟨kind, tag, code, msize, iounit, count, name, ⟨qdir, qver, qpath⟩, qids, data, ⟨qd, qv, qp⟩, m, z, n⟩ : TellV) Aq nq cq Ad nd cd ++ [Value.bool over, Value.bool b]))
  have hks := keeps_setRow w1 (g := g) (.pointer (some ⟨gr, 0, none⟩) :: (tellC (⟨kind, tag, code, msize, iounit, count, name, ⟨qdir, qver, qpath⟩, qids, data, ⟨qd, qv, qp⟩, m, z, n⟩ : TellV) Aq nq cq Ad nd cd ++ [Value.bool over, Value.bool b])).toArray
  have HK2 := Lib.hid (hk1.trans (Keeps.twog (gr := gr) hks))
  have H2 := Lib.hid (show RrS (w1.setRow g (.pointer (some ⟨gr, 0, none⟩) :: (tellC (⟨kind, tag, code, msize, iounit, count, name, ⟨qdir, qver, qpath⟩, qids, data, ⟨qd, qv, qp⟩, m, z, n⟩ : TellV) Aq nq cq Ad nd cd ++ [Value.bool over, Value.bool b])).toArray) g gr (tellC (⟨kind, tag, code, msize, iounit, count, name, ⟨qdir, qver, qpath⟩, qids, data, ⟨qd, qv, qp⟩, m, z, n⟩ : TellV) Aq nq cq Ad nd cd) over b s' from ⟨hs, rfl, hr1.2.2.1.keeps hks (fun k hk e => by have e' : k = g := e; omega), hgr⟩)
  have HQ2 := Lib.hid (OwR.keeps HQ1.out hks (fun k hk e => by have e' : k = g := e; omega))
  have HD2 := Lib.hid (OwB.keeps HD1.out hks (fun k hk e => by have e' : k = g := e; omega))
  clear c0 hr1 hk1 hs hks
  go_wp2_with (refine wpList_storeMid8 rfl (.tmp 93) (.tmp 91) rfl rfl [.bool qd, .int .i64 qv, .int .i64 qp, .int .i64 m, .int .i64 z, .string (st n)] (.pointer (some ⟨gr, 0, none⟩) :: (tellC (⟨kind, tag, code, msize, iounit, count, name, ⟨qdir, qver, qpath⟩, qids, data, ⟨qd, qv, qp⟩, m, z, n⟩ : TellV) Aq nq cq Ad nd cd ++ [Value.bool over, Value.bool b])) rfl rfl (by kernel_rfl) hB1 (by simp [tellC]) (by simp [Value.oneCell']) rfl ?_)
  go_end0
  exact ⟨rfl, (⟨kind, tag, code, msize, iounit, count, name, ⟨qdir, qver, qpath⟩, qids, data, ⟨qd, qv, qp⟩, m, z, n⟩ : TellV), over, b, s', Lib.hid (by rw [hqv.out, hm.out, hz.out, hn.out]; rfl), Lib.hid (by simp [rpO]), Lib.hid (by rw [hb.out]; rfl), Lib.hid (by rw [hs'.out]; rfl), ⟨Aq, nq, cq, Ad, nd, cd, H2.out, HQ2.out, HD2.out⟩, HK2.out⟩

theorem rPart_any (k : Int) (hk : 0 ≤ k ∧ k ≤ 8) (g gr : Nat) (t : TellV) (over wrong : Bool) (s : S18) (w : World) (h : RrT w g gr t over wrong s) (hsl : s.l.length ≤ 1048576) :
    Calls Try.prog 47 #[.pointer (some ⟨g, 0, none⟩), .int .i64 k] w (PartR g gr (rpT k t s) (over || rpO k s) (wrong || rpW k s) (rpS k s) w) := by
  obtain ⟨h0, h8⟩ := hk
  rcases (by omega : k = 0 ∨ k = 1 ∨ k = 2 ∨ k = 3 ∨ k = 4 ∨ k = 5 ∨ k = 6 ∨ k = 7 ∨ k = 8) with rfl | rfl | rfl | rfl | rfl | rfl | rfl | rfl | rfl
  · exact rPart_0 g gr t over wrong s w h hsl
  · exact rPart_1 g gr t over wrong s w h hsl
  · exact rPart_2 g gr t over wrong s w h hsl
  · exact rPart_3 g gr t over wrong s w h hsl
  · exact rPart_4 g gr t over wrong s w h hsl
  · exact rPart_5 g gr t over wrong s w h hsl
  · exact rPart_6 g gr t over wrong s w h hsl
  · exact rPart_7 g gr t over wrong s w h hsl
  · exact rPart_8 g gr t over wrong s w h hsl

/-- A struct loaded whose cells are known; the operation may have a guard. -/
theorem wpList_loadMid {P : Program} {w : World} {ops : Array Oper} {rest : List Oper} {o : Oper} {a : Act} {Q : Exit → Act → World → Prop} (hw : Region.wanted o (yielded ops a.tmps) = true) (x : Operand) {t : TypeId} (ho : o.op = .load t x)
    {g off : Nat} {xs : List Value} (hx : a.eval x = .pointer (some ⟨g, off, none⟩)) (hc : ∀ k v, xs[k]? = some v → w.cell? ⟨g, off + k, none⟩ = some v) (hs : (P.info? t).map (·.size) = some xs.length) (ha : ∀ w, (isAgg t).run P w = .ok true w)
    (k : wpList P ops Q rest (a.put o.dst (.agg xs.toArray)) w) : wpList P ops Q (o :: rest) a w :=
  wpList_step fun K hK => by
    rw [if_pos hw]
    unfold Oper.wp execOp
    simp only [ho, hx, run_loadMid hc hs ha, Sem.run_bind, Result.andThen_ok, Sem.run_pure]
    exact hK _ _ k
/-- A function's two results, a struct's cell known whole and a value. -/
theorem results_cellTmp {P : Program} {w : World} {fn : Func} {tmps : Array Value} {s r g : Nat} {t : TypeId} {cs : List Value} {v : Value} (hr : fn.results = #[.cell s t, .tmp r]) (ht : tmps.getD s undef = .pointer (some ⟨g, 0, none⟩)) (hv : tmps.getD r undef = v) (h : Blk w g t cs) (hs : (P.info? t).map (·.size) = some cs.length) (ha : ∀ w, (isAgg t).run P w = .ok true w) :
    (results fn tmps).run P w = .ok (.tuple #[.agg cs.toArray, v]) w := by
  have hv1 := h.loadVar hs ha
  have hq : (asAddr (tmps.getD s undef)).run P w = .ok ⟨g, 0, none⟩ w := by rw [ht]; rfl
  simp only [results, hr]
  simp [-Array.getD_eq_getD_getElem?, hq, hv1, hv]

theorem nxL_len (l : List UInt8) (e : Int) (n : Nat) : (nxL l e n).length ≤ l.length := nxL_le l e n
theorem txL_len (l : List UInt8) (e : Int) : (txL l e).length ≤ l.length := Nat.le_trans (nxL_le _ _ _) (nxL_le _ _ _)
theorem txB_len18 (l : List UInt8) (e : Int) : (txB l e).length ≤ l.length := Nat.le_trans (nxB_le _ _ _) (nxL_le _ _ _)
theorem dtL_len (l : List UInt8) (e m : Int) : (dtL l e m).length ≤ l.length := by
  unfold dtL; split
  · simp
  · exact Nat.le_trans (nxL_le _ _ _) (nxL_le _ _ _)
theorem dtB_len18 (l : List UInt8) (e m : Int) : (dtB l e m).length ≤ l.length := by
  unfold dtB; split
  · simp
  · exact Nat.le_trans (nxB_le _ _ _) (nxL_le _ _ _)
theorem qidS_le (s : S18) : (qidS s).l.length ≤ s.l.length := Nat.le_trans (tk_le _ _) (Nat.le_trans (tk_le _ _) (tk_le _ _))
theorem qsS_le : ∀ (n : Nat) (s : S18), (qsS n s).l.length ≤ s.l.length
  | 0, _ => Nat.le_refl _
  | n + 1, s => Nat.le_trans (qsS_le n (qidS s)) (qidS_le s)
theorem rpS_le (k : Int) (s : S18) : (rpS k s).l.length ≤ s.l.length := by
  unfold rpS
  repeat' split
  · exact tk_le _ _
  · exact tk_le _ _
  · exact tk_le _ _
  · exact tk_le _ _
  · exact txL_len _ _
  · exact qidS_le _
  · unfold qsrS; split
    · exact Nat.le_trans (qsS_le _ _) (tk_le _ _)
    · exact tk_le _ _
  · exact dtL_len _ _ _
  · exact Nat.le_trans (txL_len _ _) (Nat.le_trans (tk_le _ _) (Nat.le_trans (tk_le _ _) (qidS_le _)))
  · exact Nat.le_refl _
def TB (t : TellV) : Prop := t.qids.length ≤ 8 ∧ t.data.length ≤ 1000000 ∧ t.name.length ≤ 1000000 ∧ t.sname.length ≤ 1000000
theorem rpT_tb (k : Int) (t : TellV) (s : S18) (h : TB t) (hs : s.l.length ≤ 1000000) : TB (rpT k t s) := by
  obtain ⟨h1, h2, h3, h4⟩ := h
  unfold rpT
  repeat' split
  · exact ⟨h1, h2, h3, h4⟩
  · exact ⟨h1, h2, h3, h4⟩
  · exact ⟨h1, h2, h3, h4⟩
  · exact ⟨h1, h2, h3, h4⟩
  · exact ⟨h1, h2, Nat.le_trans (txB_len18 _ _) hs, h4⟩
  · exact ⟨h1, h2, h3, h4⟩
  · refine ⟨?_, h2, h3, h4⟩
    show (qsrV s).length ≤ 8
    unfold qsrV; split
    · rw [qsV_len]; assumption
    · simp
  · exact ⟨h1, Nat.le_trans (dtB_len18 _ _ _) hs, h3, h4⟩
  · refine ⟨h1, h2, h3, ?_⟩
    exact Nat.le_trans (txB_len18 _ _) (Nat.le_trans (Nat.le_trans (tk_le _ _) (Nat.le_trans (tk_le _ _) (qidS_le _))) hs)
  · exact ⟨h1, h2, h3, h4⟩
/-- What is read, part by part. -/
def stepR (x : TellV × Bool × Bool × S18) (k : Int) : TellV × Bool × Bool × S18 := (rpT k x.1 x.2.2.2, x.2.1 || rpO k x.2.2.2, x.2.2.1 || rpW k x.2.2.2, rpS k x.2.2.2)
theorem foldR_ok : ∀ (ks : List Int) (x : TellV × Bool × Bool × S18), TB x.1 → x.2.2.2.l.length ≤ 1000000 → TB (ks.foldl stepR x).1 ∧ (ks.foldl stepR x).2.2.2.l.length ≤ 1000000
  | [], x, h1, h2 => ⟨h1, h2⟩
  | k :: ks, x, h1, h2 => foldR_ok ks (stepR x k) (rpT_tb k x.1 x.2.2.2 h1 h2) (Nat.le_trans (rpS_le k x.2.2.2) h2)
def zeroT : TellV := bareT 0 0
def readX (l : List UInt8) : TellV × Bool × Bool × S18 := (partsM (vl 1 (tk 4 ⟨l.take 7, 0⟩))).foldl stepR (bareT (vl 1 (tk 4 ⟨l.take 7, 0⟩)) (vl 2 (tk 1 (tk 4 ⟨l.take 7, 0⟩))), false, false, ⟨l.drop 7, 0⟩)
/-- The reply of bytes, or the error. -/
def readR (l : List UInt8) : TellV × Int :=
  if l.length < 7 then (zeroT, 3)
  else if vl 4 ⟨l.take 7, 0⟩ ≠ l.length ∨ kindsW.contains (vl 1 (tk 4 ⟨l.take 7, 0⟩) : Int) = false then (zeroT, 2)
  else if (readX l).2.1 = true then (zeroT, 4)
  else if endE (readX l).2.2.2.l (readX l).2.2.2.e ≠ 0 then (zeroT, endE (readX l).2.2.2.l (readX l).2.2.2.e)
  else if (readX l).2.2.1 = true ∨ layOk (readX l).1 = false then (zeroT, 2)
  else ((readX l).1, 0)

def ReadT (l : List UInt8) (w : World) (e : Ending) (w' : World) : Prop :=
  ∃ (x : TellV) (Aq : Option Addr) (nq cq : Nat) (Ad : Option Addr) (nd cd : Nat) (er : Int), Hid (x = (readR l).1) ∧ Hid (er = (readR l).2) ∧ Hid (TB x) ∧ e = .returned (.tuple #[.agg (tellC x Aq nq cq Ad nd cd).toArray, .int .i64 er]) ∧ OwR w' w.heap.size 23 3 Aq nq cq (x.qids.map qidC) ∧ OwB w' w.heap.size Ad nd cd x.data ∧ Below w.heap.size w w'
def ReadJ (g gr : Nat) (p : List Int) (x0 : TellV × Bool × Bool × S18) (w : World) (i : Value) (wr : World) : Prop :=
  ∃ (j : Nat) (t : TellV) (ov wg : Bool) (s : S18), j ≤ p.length ∧ i = .int .i64 j ∧ Hid ((t, ov, wg, s) = (p.take j).foldl stepR x0) ∧ RrT wr g gr t ov wg s ∧ Keeps (Two18 g gr) w wr

theorem tellC_one (t : TellV) (Aq : Option Addr) (nq cq : Nat) (Ad : Option Addr) (nd cd : Nat) : ∀ v ∈ tellC t Aq nq cq Ad nd cd, v.oneCell' = true := by simp [tellC, Value.oneCell']
theorem zero_tb : TB zeroT := ⟨by decide, by decide, by decide, by decide⟩
theorem zero_post {l : List UInt8} {w w' : World} {er : Int} (h1 : (readR l) = (zeroT, er)) (hb : Below w.heap.size w w') : ReadT l w (.returned (.tuple #[.agg #[.int .i64 0, .int .i64 0, .int .i64 0, .int .i64 0, .int .i64 0, .int .i64 0, .string ByteArray.empty, .bool false, .int .i64 0, .int .i64 0, .slice none 0 0, .slice none 0 0, .bool false, .int .i64 0, .int .i64 0, .int .i64 0, .int .i64 0, .string ByteArray.empty], .int .i64 er])) w' :=
  ⟨zeroT, none, 0, 0, none, 0, 0, er, Lib.hid (by rw [h1]), Lib.hid (by rw [h1]), Lib.hid zero_tb, rfl, OwR.nil _ _ _ _, OwB.nil _ _, hb⟩

set_option maxRecDepth 20000 in
set_option maxHeartbeats 8000000 in
theorem tRead_any (A : Option Addr) (n c : Nat) (l : List UInt8) (w : World) (h : RdB w w.heap.size A n l) (hnc : n ≤ c) (hcm : c ≤ maxLen) (hn : n ≤ 1000000) :
    Calls Try.prog 24 #[.slice A n c] w (ReadT l w) := by
  have hln : l.length = n := h.len
  have hZ0 := Blk.new w 29 [.int .i64 0, .int .i64 0, .int .i64 0, .int .i64 0, .int .i64 0, .int .i64 0, .string ByteArray.empty, .bool false, .int .i64 0, .int .i64 0, .slice none 0 0, .slice none 0 0, .bool false, .int .i64 0, .int .i64 0, .int .i64 0, .int .i64 0, .string ByteArray.empty]
  obtain ⟨W, hW⟩ : ∃ W, W = w.alloc (.cells #[.int .i64 0, .int .i64 0, .int .i64 0, .int .i64 0, .int .i64 0, .int .i64 0, .string ⟨#[]⟩, .bool false, .int .i64 0, .int .i64 0, .slice none 0 0, .slice none 0 0, .bool false, .int .i64 0, .int .i64 0, .int .i64 0, .int .i64 0, .string ⟨#[]⟩] 29) := ⟨_, rfl⟩
  have hW' : W = w.alloc (.cells [.int .i64 0, .int .i64 0, .int .i64 0, .int .i64 0, .int .i64 0, .int .i64 0, .string ByteArray.empty, .bool false, .int .i64 0, .int .i64 0, .slice none 0 0, .slice none 0 0, .bool false, .int .i64 0, .int .i64 0, .int .i64 0, .int .i64 0, .string ByteArray.empty].toArray 29) := hW
  rw [← hW'] at hZ0
  have hb0 : Below w.heap.size w W := by rw [hW]; exact (Below.refl _ _).alloc (Nat.le_refl _) _
  obtain ⟨Z, hZ⟩ : ∃ Z, Z = w.heap.size := ⟨_, rfl⟩
  rw [← hZ] at hZ0
  have HZ := Lib.hid hZ0
  have HB := Lib.hid hb0
  have HZe := Lib.hid hZ
  have HR := Lib.hid h
  have HLN := Lib.hid hln
  have hZlt := hZ0.lt
  unfold maxLen at hcm
  clear hZ0 hb0 hW' h hln
  by_cases h7 : n < 7
  · have hrr : readR l = (zeroT, 3) := by unfold readR; rw [if_pos (by rw [HLN.out]; exact h7)]
    have HRR := Lib.hid hrr
    have h7i : (n : Int) < 7 := by omega
    clear hrr
    go_enter Try.func24, Try.ntmps24
    go_upto_region 1 with fail
    rw [← hW, ← hZ]
    clear hW hZ
    have hF := HZ.out.setRow [.int .i64 0, .int .i64 0, .int .i64 0, .int .i64 0, .int .i64 0, .int .i64 0, .string ByteArray.empty, .bool false, .int .i64 0, .int .i64 0, .slice none 0 0, .slice none 0 0, .bool false, .int .i64 0, .int .i64 0, .int .i64 0, .int .i64 0, .string ByteArray.empty]
    go_wp2_with (refine wpList_storeBlk rfl (.tmp 2) (.tmp 17) rfl rfl [.int .i64 0, .int .i64 0, .int .i64 0, .int .i64 0, .int .i64 0, .int .i64 0, .string ByteArray.empty, .bool false, .int .i64 0, .int .i64 0, .slice none 0 0, .slice none 0 0, .bool false, .int .i64 0, .int .i64 0, .int .i64 0, .int .i64 0, .string ByteArray.empty] rfl rfl (by kernel_rfl) HZ.out rfl (by simp [Value.oneCell']) ?_)
    exact bodyPost_ret (v := .tuple #[.agg #[.int .i64 0, .int .i64 0, .int .i64 0, .int .i64 0, .int .i64 0, .int .i64 0, .string ByteArray.empty, .bool false, .int .i64 0, .int .i64 0, .slice none 0 0, .slice none 0 0, .bool false, .int .i64 0, .int .i64 0, .int .i64 0, .int .i64 0, .string ByteArray.empty], .int .i64 3]) (results_cellTmp Try.results24 rfl rfl hF (by kernel_rfl) tellT_agg) rfl (zero_post HRR.out (below_setRow HB.out (by have := HZe.out; omega) _))
  · have h7i : ¬ (n : Int) < 7 := by omega
    have h7n : 7 ≤ n := by omega
    have h7c : (7 : Int) ≤ c := by omega
    have hnc' : (n : Int) ≤ c := by omega
    obtain ⟨A7, hA7⟩ : ∃ A7, (if c = 7 then A else A.map (fun x => ({ block := x.block, off := x.off + 7 } : Addr))) = A7 := ⟨_, rfl⟩
    have hfirst := HR.out.first h7n
    have hcut := HR.out.cut h7n hnc
    have hA7' : (if c = 7 then A else A.map (·.add 7)) = A7 := by rw [← hA7, show (fun x : Addr => x.add 7) = fun x => ({ block := x.block, off := x.off + 7 } : Addr) from by funext x; simp [Addr.add]]
    rw [hA7'] at hcut
    have HF := Lib.hid hfirst
    have HC := Lib.hid hcut
    have hll : l.length ≤ 1000000 := by rw [HLN.out]; exact hn
    have HLL := Lib.hid hll
    clear hfirst hcut hA7' hll
    go_enter Try.func24, Try.ntmps24
    go_upto_region 1 with fail
    rw [← hW, ← hZ]
    clear hW hZ
    go_wp2_with fail
    refine (read_any A 7 c (l.take 7) _ ((HF.out.below HB.out).more HB.out.size) (by omega)).mono ?_
    rintro x w1 ⟨gt, rfl, hgt, hR1, hb1⟩
    have HB1 := Lib.hid (Up.trans HB.out hb1)
    have HZ1 := Lib.hid (HZ.out.up hb1)
    have HG1 := Lib.hid hR1
    have hgtw : w.heap.size ≤ gt := by have := HB.out.size; omega
    have nZ : ¬ Is gt Z := fun e => by have e' : Z = gt := e; omega
    have under : ∀ {a b : World}, Keeps (Is gt) a b → w.heap.size ≤ a.heap.size → Below w.heap.size a b := fun k h => k.under h (fun i hi e => by have e' : i = gt := e; omega)
    have UNDER := Lib.hid (show ∀ (a b : World), Keeps (Is gt) a b → w.heap.size ≤ a.heap.size → Below w.heap.size a b from fun a b h1 h2 => under h1 h2)
    clear hb1 hR1 under
    go_wp2_with fail
    refine (rU32_any gt (l.take 7) 0 _ HG1.out).mono ?_
    rintro x w2 ⟨v1, l1, e1, hv1, hl1, he1, rfl, hR2, hK2⟩
    have HB2 := Lib.hid (HB1.out.trans (UNDER.out _ _ hK2 HB1.out.size))
    have HZ2 := Lib.hid (HZ1.out.keeps hK2 nZ)
    have HG2 := Lib.hid hR2
    clear hR2 hK2
    go_wp2_with fail
    refine (rU8_any gt l1 e1 _ HG2.out).mono ?_
    rintro x w3 ⟨v2, l2, e2, hv2, hl2, he2, rfl, hR3, hK3⟩
    have HB3 := Lib.hid (HB2.out.trans (UNDER.out _ _ hK3 HB2.out.size))
    have HZ3 := Lib.hid (HZ2.out.keeps hK3 nZ)
    have HG3 := Lib.hid hR3
    clear hR3 hK3
    go_wp2_with fail
    refine (rU16_any gt l2 e2 _ HG3.out).mono ?_
    rintro x w4 ⟨v3, l3, e3, hv3, hl3, he3, rfl, hR4, hK4⟩
    have HB4 := Lib.hid (HB3.out.trans (UNDER.out _ _ hK4 HB3.out.size))
    have HZ4 := Lib.hid (HZ3.out.keeps hK4 nZ)
    have hs1 : tk 4 ⟨l.take 7, 0⟩ = ⟨l1, e1⟩ := by unfold tk; rw [hl1.out, he1.out]
    have hs2 : tk 1 (tk 4 ⟨l.take 7, 0⟩) = ⟨l2, e2⟩ := by rw [hs1]; unfold tk; rw [hl2.out, he2.out]
    have hq1 : vl 4 ⟨l.take 7, 0⟩ = v1 := by unfold vl; rw [hv1.out]
    have hq2 : vl 1 (tk 4 ⟨l.take 7, 0⟩) = v2 := by rw [hs1]; unfold vl; rw [hv2.out]
    have hq3 : vl 2 (tk 1 (tk 4 ⟨l.take 7, 0⟩)) = v3 := by rw [hs2]; unfold vl; rw [hv3.out]
    have b1 : v1 < 4294967296 := by have := vl_lt 4 ⟨l.take 7, 0⟩; rw [hq1] at this; simpa using this
    have b2 : v2 < 256 := by have := vl_lt 1 (tk 4 ⟨l.take 7, 0⟩); rw [hq2] at this; simpa using this
    have b3 : v3 < 65536 := by have := vl_lt 2 (tk 1 (tk 4 ⟨l.take 7, 0⟩)); rw [hq3] at this; simpa using this
    have HQ1 := Lib.hid hq1
    have HQ2 := Lib.hid hq2
    have HX := Lib.hid (show readX l = (partsM v2).foldl stepR (bareT v2 v3, false, false, ⟨l.drop 7, 0⟩) by unfold readX; rw [hq2, hq3])
    clear hR4 hK4 hs1 hs2 hq1 hq2 hq3 hv1 hv2 hv3 hl1 hl2 hl3 he1 he2 he3 HG1 HG2 HG3 HB1 HB2 HB3 HZ1 HZ2 HZ3 HB HZ
    go_wp2_with fail
    refine (parts_any v2 _).mono ?_
    rintro e w5 ⟨Ap, np, cp, p, b, hp, hbk, rfl, hrp, hb5⟩
    have HB5 := Lib.hid (HB4.out.trans (hb5.mono HB4.out.size))
    have HZ5 := Lib.hid (HZ4.out.up hb5)
    have HRP := Lib.hid hrp
    have hlp : p.length = np := by have := hrp.len; simpa [iv18] using this
    have hnp : np ≤ 2 := by rw [← hlp, hp.out]; exact partsM_len v2
    have HLP := Lib.hid hlp
    clear hb5 hrp hlp HB4 HZ4
    have hbad : (¬ v1 = n ∨ (v1 = n ∧ b = false)) ∨ (v1 = n ∧ b = true) := by
      by_cases h1 : v1 = n
      · rcases b with _ | _
        · exact .inl (.inr ⟨h1, rfl⟩)
        · exact .inr ⟨h1, rfl⟩
      · exact .inl (.inl h1)
    rcases hbad with hbad | ⟨rfl, rfl⟩
    · have hrr : readR l = (zeroT, 2) := by
        unfold readR
        rw [if_neg (by rw [HLN.out]; omega), if_pos ?_]
        rw [HQ1.out, HQ2.out, HLN.out, ← hbk.out]
        rcases hbad with h1 | ⟨_, h1⟩
        · exact .inl h1
        · exact .inr h1
      have HRR := Lib.hid hrr
      have hF := HZ5.out.setRow [.int .i64 0, .int .i64 0, .int .i64 0, .int .i64 0, .int .i64 0, .int .i64 0, .string ByteArray.empty, .bool false, .int .i64 0, .int .i64 0, .slice none 0 0, .slice none 0 0, .bool false, .int .i64 0, .int .i64 0, .int .i64 0, .int .i64 0, .string ByteArray.empty]
      clear hrr
      rcases hbad with h1 | ⟨rfl, rfl⟩
      all_goals
        go_wp2_with (refine wpList_storeBlk rfl (.tmp 2) (.tmp 42) rfl rfl [.int .i64 0, .int .i64 0, .int .i64 0, .int .i64 0, .int .i64 0, .int .i64 0, .string ByteArray.empty, .bool false, .int .i64 0, .int .i64 0, .slice none 0 0, .slice none 0 0, .bool false, .int .i64 0, .int .i64 0, .int .i64 0, .int .i64 0, .string ByteArray.empty] rfl rfl (by kernel_rfl) HZ5.out rfl (by simp [Value.oneCell']) ?_)
        exact bodyPost_ret (v := .tuple #[.agg #[.int .i64 0, .int .i64 0, .int .i64 0, .int .i64 0, .int .i64 0, .int .i64 0, .string ByteArray.empty, .bool false, .int .i64 0, .int .i64 0, .slice none 0 0, .slice none 0 0, .bool false, .int .i64 0, .int .i64 0, .int .i64 0, .int .i64 0, .string ByteArray.empty], .int .i64 2]) (results_cellTmp Try.results24 rfl rfl hF (by kernel_rfl) tellT_agg) rfl (zero_post HRR.out (below_setRow HB5.out (by have := HZe.out; omega) _))
    · go_wp2_with fail
      refine (read_any A7 (v1 - 7) (c - 7) (l.drop 7) _ ((HC.out.below HB5.out).more HB5.out.size) (by omega)).mono ?_
      rintro x w6 ⟨gr, rfl, hgr, hR6, hb6⟩
      have hgrl : gr < w6.heap.size := hR6.lt
      have HB6 := Lib.hid (HB5.out.trans (hb6.mono HB5.out.size))
      have hZ6 := HZ5.out.up hb6
      have hRP6 := HRP.out.below (hb6)
      go_upto_region 11 with fail
      have hB7 := Blk.new w6 76 [.pointer (some ⟨gr, 0, none⟩), .int .i64 v2, .int .i64 v3, .int .i64 0, .int .i64 0, .int .i64 0, .int .i64 0, .string ByteArray.empty, .bool false, .int .i64 0, .int .i64 0, .slice none 0 0, .slice none 0 0, .bool false, .int .i64 0, .int .i64 0, .int .i64 0, .int .i64 0, .string ByteArray.empty, .bool false, .bool false]
      have hbal : Below w6.heap.size w6 (w6.alloc (.cells #[.pointer (some ⟨gr, 0, none⟩), .int .i64 v2, .int .i64 v3, .int .i64 0, .int .i64 0, .int .i64 0, .int .i64 0, .string ⟨#[]⟩, .bool false, .int .i64 0, .int .i64 0, .slice none 0 0, .slice none 0 0, .bool false, .int .i64 0, .int .i64 0, .int .i64 0, .int .i64 0, .string ⟨#[]⟩, .bool false, .bool false] 76)) := (Below.refl _ _).alloc (Nat.le_refl _) _
      have hR7 := hR6.up hbal
      have hb7 := Lib.hid (HB6.out.trans (hbal.mono HB6.out.size))
      have hZ7 := hZ6.up hbal
      have hRP7 := hRP6.below (hbal.mono (by have := hb6.size; omega))
      have hB7' : Blk (w6.alloc (.cells #[.pointer (some ⟨gr, 0, none⟩), .int .i64 v2, .int .i64 v3, .int .i64 0, .int .i64 0, .int .i64 0, .int .i64 0, .string ⟨#[]⟩, .bool false, .int .i64 0, .int .i64 0, .slice none 0 0, .slice none 0 0, .bool false, .int .i64 0, .int .i64 0, .int .i64 0, .int .i64 0, .string ⟨#[]⟩, .bool false, .bool false] 76)) w6.heap.size 76 [.pointer (some ⟨gr, 0, none⟩), .int .i64 v2, .int .i64 v3, .int .i64 0, .int .i64 0, .int .i64 0, .int .i64 0, .string ByteArray.empty, .bool false, .int .i64 0, .int .i64 0, .slice none 0 0, .slice none 0 0, .bool false, .int .i64 0, .int .i64 0, .int .i64 0, .int .i64 0, .string ByteArray.empty, .bool false, .bool false] := hB7
      obtain ⟨g, hg⟩ : ∃ g, g = w6.heap.size := ⟨_, rfl⟩
      rw [← hg] at hB7' ⊢
      have hT7 : RrT (w6.alloc (.cells #[.pointer (some ⟨gr, 0, none⟩), .int .i64 v2, .int .i64 v3, .int .i64 0, .int .i64 0, .int .i64 0, .int .i64 0, .string ⟨#[]⟩, .bool false, .int .i64 0, .int .i64 0, .slice none 0 0, .slice none 0 0, .bool false, .int .i64 0, .int .i64 0, .int .i64 0, .int .i64 0, .string ⟨#[]⟩, .bool false, .bool false] 76)) g gr (bareT v2 v3) false false ⟨l.drop 7, 0⟩ := ⟨none, 0, 0, none, 0, 0, ⟨hB7', rfl, hR7, by omega⟩, OwR.nil _ _ _ _, OwB.nil _ _⟩
      have hgw : w5.heap.size ≤ gr := hgr
      have hww : w.heap.size ≤ w5.heap.size := HB5.out.size
      have hZl : Z < w5.heap.size := HZ5.out.lt
      have hgrg : gr < g := by omega
      clear hB7 hbal hR7 hR6 hb6 hRP6 hZ6 hB7' hg HB6 HB5 HZ5 HRP
      generalize w6.alloc (.cells #[.pointer (some ⟨gr, 0, none⟩), .int .i64 v2, .int .i64 v3, .int .i64 0, .int .i64 0, .int .i64 0, .int .i64 0, .string ⟨#[]⟩, .bool false, .int .i64 0, .int .i64 0, .slice none 0 0, .slice none 0 0, .bool false, .int .i64 0, .int .i64 0, .int .i64 0, .int .i64 0, .string ⟨#[]⟩, .bool false, .bool false] 76) = w7 at hb7 hZ7 hRP7 hT7 ⊢
      have HT7 := Lib.hid hT7
      have HZ7 := Lib.hid hZ7
      have HRP7 := Lib.hid hRP7
      have nZ2 : ¬ Two18 g gr Z := fun e => by rcases e with e | e <;> omega
      have hx0 := fun j => foldR_ok (p.take j) (bareT v2 v3, false, false, ⟨l.drop 7, 0⟩) ⟨Nat.zero_le _, Nat.zero_le _, Nat.zero_le _, Nat.zero_le _⟩ (by have := HLL.out; simp; omega)
      have HX0 := Lib.hid hx0
      clear hT7 hZ7 hRP7 hx0
      go_wp2
      go_loopw [55] (fun i wr => ReadJ g gr p (bareT v2 v3, false, false, ⟨l.drop 7, 0⟩) w7 i wr) (fun i _ => np - (intOf i).toNat)
      case atStart => exact ⟨0, _, _, _, _, by omega, rfl, rfl, HT7.out, Keeps.refl _ _⟩
      case round =>
        obtain ⟨j, t, ov, wg, s, hj, rfl, hst, hwt, hkw⟩ := hrel
        have hjn : j ≤ np := by rw [← HLP.out]; exact hj
        have hkb : Below w5.heap.size w7 wr := hkw.under (by have := HT7.out.lt; omega) (fun k hk e => by rcases e with e | e <;> omega)
        by_cases hlt : j < np
        · have j0 : (0 : Int) ≤ j := by omega
          have j1 : (j : Int) < np := by omega
          have hjp : j < p.length := by rw [HLP.out]; exact hlt
          obtain ⟨bp, op, up, hAp, hbp, hup, hcp⟩ := (HRP7.out.below hkb).at_ hlt
          obtain ⟨k, hkj⟩ : ∃ k, p[j]? = some k := ⟨_, List.getElem?_eq_getElem hjp⟩
          have hup' : up = .int .i64 k := by
            unfold iv18 at hup
            rw [List.getElem?_map, hkj] at hup
            exact (Option.some.inj hup).symm
          subst hup'
          subst hAp
          have hsm := parts_small v2 j k (by rw [← hp.out]; exact hkj) (bareT 0 0) true
          have hk08 := hsm.1
          have hnn := HX0.out j
          rw [← hst.out] at hnn
          have HSTEP : Hid (stepR (t, ov, wg, s) k = (p.take (j + 1)).foldl stepR (bareT v2 v3, false, false, ⟨l.drop 7, 0⟩)) := Lib.hid (by
            rw [List.take_add_one, hkj]
            simp [← hst.out])
          have HNN := Lib.hid hnn
          have HK8 := Lib.hid hk08
          have HWT := Lib.hid hwt
          have HKW := Lib.hid hkw
          clear hup hkj hsm hnn hk08 hwt hkw hkb hbp
          go_wp2_with fail
          refine (rPart_any k HK8.out g gr t ov wg s _ HWT.out (Nat.le_trans HNN.out.2 (by omega))).mono ?_
          rintro e w8 ⟨rfl, t8, ov8, wg8, s8, ht8, hov8, hwg8, hs8, hw8, hk8⟩
          have HW8 := Lib.hid hw8
          have HK8' := Lib.hid (HKW.out.trans hk8)
          clear hw8 hk8 hcp
          go_wp2
          go_roundw
          case rel => exact ⟨j + 1, t8, ov8, wg8, s8, by rw [HLP.out]; omega, by go_num, Lib.hid (by rw [← HSTEP.out, ht8.out, hov8.out, hwg8.out, hs8.out]; rfl), HW8.out, HK8'.out⟩
          case measure => simp [intOf]; omega
        · obtain rfl : j = np := by omega
          have j1 : ¬ (j : Int) < j := by omega
          have hfin : readX l = (t, ov, wg, s) := by rw [HX.out, ← hp.out, hst.out, List.take_of_length_le (by rw [HLP.out]; exact Nat.le_refl _)]
          have hnn := HX0.out j
          rw [← hst.out] at hnn
          have htb : TB t := hnn.1
          have HTB := Lib.hid htb
          have hrd : readR l = if ov = true then (zeroT, 4) else if endE s.l s.e ≠ 0 then (zeroT, endE s.l s.e) else if wg = true ∨ layOk t = false then (zeroT, 2) else (t, 0) := by
            unfold readR
            rw [if_neg (by rw [HLN.out]; omega), if_neg ?_, hfin]
            rw [HQ1.out, HQ2.out, HLN.out, ← hbk.out]
            simp
          have HRD := Lib.hid hrd
          have HBW := Lib.hid (hb7.out.trans (hkb.mono hww))
          have hZr := HZ7.out.keeps hkw nZ2
          obtain ⟨Aq, nq, cq, Ad, nd, cd, hrs, hoq, hod⟩ := hwt
          have c0 := hrs.c0
          have c19 := hrs.c19
          have c20 := hrs.c20
          have HRS := Lib.hid hrs
          have HOQ := Lib.hid hoq
          have HOD := Lib.hid hod
          have HZR := Lib.hid hZr
          have hFz := hZr.setRow [.int .i64 0, .int .i64 0, .int .i64 0, .int .i64 0, .int .i64 0, .int .i64 0, .string ByteArray.empty, .bool false, .int .i64 0, .int .i64 0, .slice none 0 0, .slice none 0 0, .bool false, .int .i64 0, .int .i64 0, .int .i64 0, .int .i64 0, .string ByteArray.empty]
          have HFZ := Lib.hid hFz
          have hbz : ∀ cs, Below w.heap.size w (wr.setRow Z cs) := fun cs => below_setRow HBW.out (by have := HZe.out; omega) cs
          have HBZ := Lib.hid hbz
          clear hst hkb hkw hfin hnn htb hrd hrs hoq hod hZr hFz hbz
          rcases ov with _ | _
          case true =>
            have HR4 := Lib.hid (show readR l = (zeroT, 4) by rw [HRD.out, if_pos rfl])
            go_wp2_with (refine wpList_storeBlk rfl (.tmp 2) (.tmp 67) rfl rfl [.int .i64 0, .int .i64 0, .int .i64 0, .int .i64 0, .int .i64 0, .int .i64 0, .string ByteArray.empty, .bool false, .int .i64 0, .int .i64 0, .slice none 0 0, .slice none 0 0, .bool false, .int .i64 0, .int .i64 0, .int .i64 0, .int .i64 0, .string ByteArray.empty] rfl rfl (by kernel_rfl) HZR.out rfl (by simp [Value.oneCell']) ?_)
            exact bodyPost_ret (v := .tuple #[.agg #[.int .i64 0, .int .i64 0, .int .i64 0, .int .i64 0, .int .i64 0, .int .i64 0, .string ByteArray.empty, .bool false, .int .i64 0, .int .i64 0, .slice none 0 0, .slice none 0 0, .bool false, .int .i64 0, .int .i64 0, .int .i64 0, .int .i64 0, .string ByteArray.empty], .int .i64 4]) (results_cellTmp Try.results24 rfl rfl HFZ.out (by kernel_rfl) tellT_agg) rfl (zero_post HR4.out (HBZ.out _))
          go_wp2_with fail
          refine (rEnd_any gr s.l s.e _ HRS.out.2.2.1).mono ?_
          rintro e w9 ⟨rfl, rfl⟩
          by_cases hend : endE s.l s.e = 0
          case neg =>
            have HR5 := Lib.hid (show readR l = (zeroT, endE s.l s.e) by rw [HRD.out, if_neg (by simp), if_pos hend])
            have hne : (endE s.l s.e != 0) = true := by simpa using hend
            go_wp2_with (refine wpList_storeBlk rfl (.tmp 2) (.tmp 75) rfl rfl [.int .i64 0, .int .i64 0, .int .i64 0, .int .i64 0, .int .i64 0, .int .i64 0, .string ByteArray.empty, .bool false, .int .i64 0, .int .i64 0, .slice none 0 0, .slice none 0 0, .bool false, .int .i64 0, .int .i64 0, .int .i64 0, .int .i64 0, .string ByteArray.empty] rfl rfl (by kernel_rfl) HZR.out rfl (by simp [Value.oneCell']) ?_)
            exact bodyPost_ret (v := .tuple #[.agg #[.int .i64 0, .int .i64 0, .int .i64 0, .int .i64 0, .int .i64 0, .int .i64 0, .string ByteArray.empty, .bool false, .int .i64 0, .int .i64 0, .slice none 0 0, .slice none 0 0, .bool false, .int .i64 0, .int .i64 0, .int .i64 0, .int .i64 0, .string ByteArray.empty], .int .i64 (endE s.l s.e)]) (results_cellTmp Try.results24 rfl rfl HFZ.out (by kernel_rfl) tellT_agg) rfl (zero_post HR5.out (HBZ.out _))
          rcases wg with _ | _
          case true =>
            have HR6 := Lib.hid (show readR l = (zeroT, 2) by rw [HRD.out, if_neg (by simp), if_neg (by simpa using hend), if_pos (.inl rfl)])
            go_wp2_with (refine wpList_storeBlk rfl (.tmp 2) (.tmp 89) rfl rfl [.int .i64 0, .int .i64 0, .int .i64 0, .int .i64 0, .int .i64 0, .int .i64 0, .string ByteArray.empty, .bool false, .int .i64 0, .int .i64 0, .slice none 0 0, .slice none 0 0, .bool false, .int .i64 0, .int .i64 0, .int .i64 0, .int .i64 0, .string ByteArray.empty] rfl rfl (by kernel_rfl) HZR.out rfl (by simp [Value.oneCell']) ?_)
            exact bodyPost_ret (v := .tuple #[.agg #[.int .i64 0, .int .i64 0, .int .i64 0, .int .i64 0, .int .i64 0, .int .i64 0, .string ByteArray.empty, .bool false, .int .i64 0, .int .i64 0, .slice none 0 0, .slice none 0 0, .bool false, .int .i64 0, .int .i64 0, .int .i64 0, .int .i64 0, .string ByteArray.empty], .int .i64 2]) (results_cellTmp Try.results24 rfl rfl HFZ.out (by kernel_rfl) tellT_agg) rfl (zero_post HR6.out (HBZ.out _))
          have hcells : ∀ k v, (tellC t Aq nq cq Ad nd cd)[k]? = some v → wr.cell? ⟨g, 1 + k, none⟩ = some v := fun k v hk => by
            rw [Nat.add_comm]
            exact HRS.out.1.cell (k + 1) v (rr_at HRS.out.2.1 hk)
          have hlq : t.qids.length = nq := by have := HOQ.out.len; simpa using this
          have hld : t.data.length = nd := HOD.out.len
          have hq8 := HTB.out.1
          have hd8 := HTB.out.2.1
          have HCC := Lib.hid hcells
          clear hcells
          rw [hend]
          go_wp2_with (refine wpList_loadMid rfl (.tmp 84) rfl (xs := tellC t Aq nq cq Ad nd cd) rfl HCC.out (by kernel_rfl) tellT_agg ?_; simp only [Act.put, List.setIfInBounds_toArray, List.set_cons_succ, List.set_cons_zero])
          refine (tMay_any t.kind t.tag t.code t.msize t.iounit t.count t.name t.qid.dir t.qid.ver t.qid.path t.qids t.data t.sqid.dir t.sqid.ver t.sqid.path t.smode t.ssize t.sname Aq nq cq Ad nd cd _ HOQ.out.rd HOD.out.rd (by omega) (by omega) (by have := HTB.out.2.2.1; omega) (by have := HTB.out.2.2.2; omega)).mono ?_
          rintro e wm ⟨okm, hokm, rfl, hbm⟩
          have hokm' : okm = layOk t := hokm.out
          have HZm := Lib.hid (HZR.out.up hbm)
          have HBm := Lib.hid (HBW.out.trans (hbm.mono HBW.out.size))
          have HRm := Lib.hid (HRS.out.up hbm)
          have HQm := Lib.hid (HOQ.out.up hbm)
          have HDm := Lib.hid (HOD.out.up hbm)
          clear hbm hokm c0 c19 c20
          rcases okm with _ | _
          · have HR7 := Lib.hid (show readR l = (zeroT, 2) by rw [HRD.out, if_neg (by simp), if_neg (by simpa using hend), if_pos (.inr hokm'.symm)])
            have hFm := HZm.out.setRow [.int .i64 0, .int .i64 0, .int .i64 0, .int .i64 0, .int .i64 0, .int .i64 0, .string ByteArray.empty, .bool false, .int .i64 0, .int .i64 0, .slice none 0 0, .slice none 0 0, .bool false, .int .i64 0, .int .i64 0, .int .i64 0, .int .i64 0, .string ByteArray.empty]
            clear hokm'
            go_wp2_with (refine wpList_storeBlk rfl (.tmp 2) (.tmp 89) rfl rfl [.int .i64 0, .int .i64 0, .int .i64 0, .int .i64 0, .int .i64 0, .int .i64 0, .string ByteArray.empty, .bool false, .int .i64 0, .int .i64 0, .slice none 0 0, .slice none 0 0, .bool false, .int .i64 0, .int .i64 0, .int .i64 0, .int .i64 0, .string ByteArray.empty] rfl rfl (by kernel_rfl) HZm.out rfl (by simp [Value.oneCell']) ?_)
            exact bodyPost_ret (v := .tuple #[.agg #[.int .i64 0, .int .i64 0, .int .i64 0, .int .i64 0, .int .i64 0, .int .i64 0, .string ByteArray.empty, .bool false, .int .i64 0, .int .i64 0, .slice none 0 0, .slice none 0 0, .bool false, .int .i64 0, .int .i64 0, .int .i64 0, .int .i64 0, .string ByteArray.empty], .int .i64 2]) (results_cellTmp Try.results24 rfl rfl hFm (by kernel_rfl) tellT_agg) rfl (zero_post HR7.out (below_setRow HBm.out (by have := HZe.out; omega) _))
          · have HR8 := Lib.hid (show readR l = (t, 0) by rw [HRD.out, if_neg (by simp), if_neg (by simpa using hend), if_neg (by rw [← hokm']; simp)])
            have hFm := HZm.out.setRow (tellC t Aq nq cq Ad nd cd)
            have hks := keeps_setRow wm (g := Z) (tellC t Aq nq cq Ad nd cd).toArray
            have HQf := Lib.hid (OwR.keeps HQm.out hks (fun k hk e => by have e' : k = Z := e; omega))
            have HDf := Lib.hid (OwB.keeps HDm.out hks (fun k hk e => by have e' : k = Z := e; omega))
            have hcm : ∀ k v, (tellC t Aq nq cq Ad nd cd)[k]? = some v → wm.cell? ⟨g, 1 + k, none⟩ = some v := fun k v hk => by
              rw [Nat.add_comm]
              exact HRm.out.1.cell (k + 1) v (rr_at HRm.out.2.1 hk)
            have HCM := Lib.hid hcm
            clear hokm' hks hcm
            have c1 := HRm.out.c0
            clear c1
            go_wp2_with first
              | (refine wpList_loadMid rfl (.tmp 92) rfl (xs := tellC t Aq nq cq Ad nd cd) rfl HCM.out (by kernel_rfl) tellT_agg ?_; simp only [Act.put, List.setIfInBounds_toArray, List.set_cons_succ, List.set_cons_zero])
              | (refine wpList_storeBlk rfl (.tmp 2) (.tmp 93) rfl rfl (tellC t Aq nq cq Ad nd cd) rfl rfl (by kernel_rfl) HZm.out rfl (tellC_one t Aq nq cq Ad nd cd) ?_)
            exact bodyPost_ret (v := .tuple #[.agg (tellC t Aq nq cq Ad nd cd).toArray, .int .i64 0]) (results_cellTmp Try.results24 rfl rfl hFm (by kernel_rfl) tellT_agg) rfl ⟨t, Aq, nq, cq, Ad, nd, cd, 0, Lib.hid (by rw [HR8.out]), Lib.hid (by rw [HR8.out]), HTB, rfl, HQf.out.lower (by omega), OwB.lower HDf.out (by omega), below_setRow HBm.out (by have := HZe.out; omega) _⟩
end Go.Proofs.Ytoplkglnjgllnaa
