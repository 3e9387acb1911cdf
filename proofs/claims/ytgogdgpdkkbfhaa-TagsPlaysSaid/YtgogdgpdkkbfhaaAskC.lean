/-
  Layer 17's helper Same, of requests that are alike; Around and low with their value outright.
-/
import Derived.Test.YtgogdgpdkkbfhaaAskB
import Derived.Test.YtgogdgpdkkbfhaaPlan4
namespace Go.Proofs.Ytgogdgpdkkbfhaa
open Go.RowKit
set_option linter.unusedVariables false
set_option linter.unusedSimpArgs false

theorem around_det (n : Int) (m : Nat) (w : World) (h0 : -9223372036854775808 ≤ n) (h1 : n ≤ 9223372036854775807) (hm : 1 ≤ m) (hm2 : m ≤ 9223372036854775807) :
    Calls Try.prog 8 #[.int .i64 n, .int .i64 m] w fun e w' => e = .returned (.int .i64 (up0 n % m)) ∧ w = w' := by
  refine (around_any n m w h0 h1 hm hm2).mono ?_
  rintro e w' ⟨k, hk, _, rfl, rfl⟩
  exact ⟨by rw [hk.out], rfl⟩
theorem low_det (n : Int) (w : World) (h0 : -9223372036854775808 ≤ n) (h1 : n ≤ 9223372036854775807) :
    Calls Try.prog 29 #[.int .i64 n] w fun e w' => e = .returned (.int .i64 (up0 n % 4294967296)) ∧ w = w' := by
  refine (low_any n w h0 h1).mono ?_
  rintro e w' ⟨k, hk, _, rfl, rfl⟩
  exact ⟨by rw [hk.out], rfl⟩

def StRel (n : Nat) (w : World) (i : Value) (wr : World) : Prop := ∃ j : Nat, j ≤ n ∧ i = .int .i64 j ∧ Below w.heap.size w wr

set_option maxHeartbeats 2000000 in
theorem sameTexts_eq (A1 A2 : Option Addr) (n c1 c2 : Nat) (ls : List (List UInt8)) (w : World) (h1 : RdV w w.heap.size A1 n (sv ls)) (h2 : RdV w w.heap.size A2 n (sv ls)) (hn : n ≤ 1048576) :
    Calls Try.prog 34 #[.slice A1 n c1, .slice A2 n c2] w fun e w' => e = .returned (.bool true) ∧ Below w.heap.size w w' := by
  have H1 := Lib.hid h1
  have H2 := Lib.hid h2
  have hl : ls.length = n := by rw [← sv_length]; exact h1.len
  have HL := Lib.hid hl
  clear h1 h2 hl
  go_enter Try.func34, Try.ntmps34
  go_wp2
  go_loopw [5] (fun i wr => StRel n w i wr) (fun i _ => n - (intOf i).toNat)
  case atStart => exact ⟨0, by omega, rfl, Below.refl _ _⟩
  case round =>
    obtain ⟨j, hj, rfl, hbw⟩ := hrel
    by_cases hlt : j < n
    · have j0 : (0 : Int) ≤ j := by omega
      have j1 : (j : Int) < n := by omega
      obtain ⟨b1, o1, u1, hA1, hb1, hu1, hc1⟩ := (H1.out.below hbw).at_ hlt
      obtain ⟨b2, o2, u2, hA2, hb2, hu2, hc2⟩ := (H2.out.below hbw).at_ hlt
      have hlt' : j < ls.length := by rw [HL.out]; exact hlt
      obtain ⟨x, hx⟩ : ∃ x, x = ls[j] := ⟨_, rfl⟩
      rw [sv_at, List.getElem?_eq_getElem hlt', ← hx] at hu1 hu2
      obtain rfl : u1 = .string (st x) := by simpa using hu1.symm
      obtain rfl : u2 = .string (st x) := by simpa using hu2.symm
      subst hA1
      subst hA2
      have k1 : ∀ p : Abv NoG wr.drew, p.val.cell? ⟨b1, o1 + j, none⟩ = some (.string (st x)) := cell_abv (w := wr.drew) hc1 id
      have k2 : ∀ p : Abv NoG wr.drew, p.val.cell? ⟨b2, o2 + j, none⟩ = some (.string (st x)) := cell_abv (w := wr.drew) hc2 id
      clear hc1 hc2 hu1 hu2 hx hb1 hb2
      go_wp2
      refine wp_region_plan NoG [(0, false), (1, false), (2, false), (3, false), (4, false), (5, false), (6, false), (7, false), (8, false)] (by kernel_rfl) (by kernel_rfl) ?_
      repeat (refine plan_take (by simp only [List.getElem?_toArray, List.getElem?_cons_succ, List.getElem?_cons_zero]; exact rfl) ?_; go_big_quiet_step (fail); refine wpQuiet_nil ?_)
      refine plan_end ?_
      go_wp2
      go_roundw
      case rel => exact ⟨j + 1, by omega, by go_num, hbw.drew⟩
      case measure => simp [intOf]; omega
    · obtain rfl : j = n := by omega
      have j1 : ¬ (j : Int) < j := by omega
      go_wp2
      go_ret
      exact ⟨rfl, hbw⟩

set_option maxRecDepth 100000 in
set_option maxHeartbeats 4000000 in
theorem same_eq (kind tag fid nfid otag msize mode perm off count size : Int) (name : List UInt8) (names : List (List UInt8)) (data : List UInt8) (An : Option Addr) (nn cn : Nat) (Ad : Option Addr) (nd cd : Nat) (Bn : Option Addr) (mn dn : Nat) (Bd : Option Addr) (md dd : Nat) (w : World)
    (hn1 : RdV w w.heap.size An nn (sv names)) (hn2 : RdV w w.heap.size Bn mn (sv names)) (hd1 : RdB w w.heap.size Ad nd data) (hd2 : RdB w w.heap.size Bd md data) (hn : nn ≤ 1048576) :
    Calls Try.prog 14 #[.agg #[.int .i64 kind, .int .i64 tag, .int .i64 fid, .int .i64 nfid, .int .i64 otag, .int .i64 msize, .int .i64 mode, .int .i64 perm, .int .i64 off, .int .i64 count, .string (st name), .slice An nn cn, .int .i64 size, .slice Ad nd cd], .agg #[.int .i64 kind, .int .i64 tag, .int .i64 fid, .int .i64 nfid, .int .i64 otag, .int .i64 msize, .int .i64 mode, .int .i64 perm, .int .i64 off, .int .i64 count, .string (st name), .slice Bn mn dn, .int .i64 size, .slice Bd md dd]] w fun e w' => e = .returned (.bool true) ∧ Below w.heap.size w w' := by
  obtain rfl : mn = nn := by rw [← hn1.len, ← hn2.len]
  have hB1 := Blk.new w 32 [.int .i64 kind, .int .i64 tag, .int .i64 fid, .int .i64 nfid, .int .i64 otag, .int .i64 msize, .int .i64 mode, .int .i64 perm, .int .i64 off, .int .i64 count, .string (st name), .slice An mn cn, .int .i64 size, .slice Ad nd cd]
  have hB2 := Blk.new (w.alloc (.cells #[.int .i64 kind, .int .i64 tag, .int .i64 fid, .int .i64 nfid, .int .i64 otag, .int .i64 msize, .int .i64 mode, .int .i64 perm, .int .i64 off, .int .i64 count, .string (st name), .slice An mn cn, .int .i64 size, .slice Ad nd cd] 32)) 32 [.int .i64 kind, .int .i64 tag, .int .i64 fid, .int .i64 nfid, .int .i64 otag, .int .i64 msize, .int .i64 mode, .int .i64 perm, .int .i64 off, .int .i64 count, .string (st name), .slice Bn mn dn, .int .i64 size, .slice Bd md dd]
  have hB1' := hB1.alloc (.cells #[.int .i64 kind, .int .i64 tag, .int .i64 fid, .int .i64 nfid, .int .i64 otag, .int .i64 msize, .int .i64 mode, .int .i64 perm, .int .i64 off, .int .i64 count, .string (st name), .slice Bn mn dn, .int .i64 size, .slice Bd md dd] 32)
  have hb : Below w.heap.size w ((w.alloc (.cells #[.int .i64 kind, .int .i64 tag, .int .i64 fid, .int .i64 nfid, .int .i64 otag, .int .i64 msize, .int .i64 mode, .int .i64 perm, .int .i64 off, .int .i64 count, .string (st name), .slice An mn cn, .int .i64 size, .slice Ad nd cd] 32)).alloc (.cells #[.int .i64 kind, .int .i64 tag, .int .i64 fid, .int .i64 nfid, .int .i64 otag, .int .i64 msize, .int .i64 mode, .int .i64 perm, .int .i64 off, .int .i64 count, .string (st name), .slice Bn mn dn, .int .i64 size, .slice Bd md dd] 32)) := ((Below.refl _ _).alloc (Nat.le_refl _) _).alloc (by simp) _
  rw [show (w.alloc (.cells #[.int .i64 kind, .int .i64 tag, .int .i64 fid, .int .i64 nfid, .int .i64 otag, .int .i64 msize, .int .i64 mode, .int .i64 perm, .int .i64 off, .int .i64 count, .string (st name), .slice An mn cn, .int .i64 size, .slice Ad nd cd] 32)).heap.size = w.heap.size + 1 by simp] at hB2
  have HN1 := Lib.hid hn1
  have HN2 := Lib.hid hn2
  have HD1 := Lib.hid hd1
  have HD2 := Lib.hid hd2
  clear hn1 hn2 hd1 hd2 hB1
  go_enter Try.func14, Try.ntmps14
  go_upto_region 1 with fail
  generalize (w.alloc (.cells #[.int .i64 kind, .int .i64 tag, .int .i64 fid, .int .i64 nfid, .int .i64 otag, .int .i64 msize, .int .i64 mode, .int .i64 perm, .int .i64 off, .int .i64 count, .string (st name), .slice An mn cn, .int .i64 size, .slice Ad nd cd] 32)).alloc (.cells #[.int .i64 kind, .int .i64 tag, .int .i64 fid, .int .i64 nfid, .int .i64 otag, .int .i64 msize, .int .i64 mode, .int .i64 perm, .int .i64 off, .int .i64 count, .string (st name), .slice Bn mn dn, .int .i64 size, .slice Bd md dd] 32) = W at hB1' hB2 hb
  have a11 := hB1'.cell 11 _ rfl
  have b11 := hB2.cell 11 _ rfl
  have HB1 := Lib.hid hB1'
  have HB2 := Lib.hid hB2
  have HB := Lib.hid hb
  clear hB1' hB2 hb
  go_wp2_with fail
  refine (sameTexts_eq An Bn mn cn dn names _ (HN1.out.up HB.out) (HN2.out.up HB.out) hn).mono ?_
  rintro e W1 ⟨rfl, hb1⟩
  have X := HB1.out.up hb1
  have Y := HB2.out.up hb1
  have a0 := X.cell 0 _ rfl
  have a1 := X.cell 1 _ rfl
  have a2 := X.cell 2 _ rfl
  have a3 := X.cell 3 _ rfl
  have a4 := X.cell 4 _ rfl
  have a5 := X.cell 5 _ rfl
  have a6 := X.cell 6 _ rfl
  have a7 := X.cell 7 _ rfl
  have a8 := X.cell 8 _ rfl
  have a9 := X.cell 9 _ rfl
  have a10 := X.cell 10 _ rfl
  have a12 := X.cell 12 _ rfl
  have a13 := X.cell 13 _ rfl
  have b0 := Y.cell 0 _ rfl
  have b1 := Y.cell 1 _ rfl
  have b2 := Y.cell 2 _ rfl
  have b3 := Y.cell 3 _ rfl
  have b4 := Y.cell 4 _ rfl
  have b5 := Y.cell 5 _ rfl
  have b6 := Y.cell 6 _ rfl
  have b7 := Y.cell 7 _ rfl
  have b8 := Y.cell 8 _ rfl
  have b9 := Y.cell 9 _ rfl
  have b10 := Y.cell 10 _ rfl
  have b12 := Y.cell 12 _ rfl
  have b13 := Y.cell 13 _ rfl
  have hcA := str_of (c := cd) (HD1.out.up (Up.trans HB.out hb1)) (Below.refl _ _)
  have hcB := str_of (c := dd) (HD2.out.up (Up.trans HB.out hb1)) (Below.refl _ _)
  have hbb := Lib.hid (Up.trans HB.out hb1)
  clear X Y hb1 a11 b11
  go_wp2
  go_ret
  exact ⟨rfl, hbb.out⟩
end Go.Proofs.Ytgogdgpdkkbfhaa
