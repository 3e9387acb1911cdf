/-
  Layer 22: the reference's Pick of none, Flush, Put, Ask.
-/
import Derived.Test.YtgogdgpdkkbfhaaTagsH
namespace Go.Proofs.Ytgogdgpdkkbfhaa
open Go.RowKit
set_option linter.unusedVariables false
set_option linter.unusedSimpArgs false

theorem refPick_none (A : Option Addr) (n c : Nat) (k : Int) (w : World) (hk : k < 0 ∨ (n : Int) ≤ k) :
    Calls Try.prog 18 #[.slice A n c, .int .i64 k] w fun e w' => e = .returned (.tuple #[.slice A n c, .agg #[.int .i64 0, .int .i64 0, .int .i64 0, .int .i64 0, .int .i64 0, .int .i64 0, .int .i64 0, .int .i64 0, .int .i64 0, .int .i64 0, .string ByteArray.empty, .slice none 0 0, .int .i64 0, .slice none 0 0], .int .i64 6]) ∧ Below w.heap.size w w' := by
  have hz := askZ_zero
  have hB := Blk.new w 32 [.int .i64 0, .int .i64 0, .int .i64 0, .int .i64 0, .int .i64 0, .int .i64 0, .int .i64 0, .int .i64 0, .int .i64 0, .int .i64 0, .string ByteArray.empty, .slice none 0 0, .int .i64 0, .slice none 0 0]
  have hb := (Below.refl w.heap.size w).alloc (Nat.le_refl _) (.cells #[.int .i64 0, .int .i64 0, .int .i64 0, .int .i64 0, .int .i64 0, .int .i64 0, .int .i64 0, .int .i64 0, .int .i64 0, .int .i64 0, .string ByteArray.empty, .slice none 0 0, .int .i64 0, .slice none 0 0] 32)
  rcases Int.lt_or_le k 0 with h0 | h0
  · clear hk
    go_enter Try.func18, Try.ntmps18
    go_upto_region 1 with fail
    generalize w.alloc (.cells #[.int .i64 0, .int .i64 0, .int .i64 0, .int .i64 0, .int .i64 0, .int .i64 0, .int .i64 0, .int .i64 0, .int .i64 0, .int .i64 0, .string ByteArray.empty, .slice none 0 0, .int .i64 0, .slice none 0 0] 32) = W at hB hb
    go_wp2_with (refine wpList_storeBlk rfl (.tmp 5) (.tmp 17) rfl rfl [.int .i64 0, .int .i64 0, .int .i64 0, .int .i64 0, .int .i64 0, .int .i64 0, .int .i64 0, .int .i64 0, .int .i64 0, .int .i64 0, .string ByteArray.empty, .slice none 0 0, .int .i64 0, .slice none 0 0] rfl rfl (by kernel_rfl) hB rfl (by simp [Value.oneCell']) ?_)
    have hF := hB.setRow [.int .i64 0, .int .i64 0, .int .i64 0, .int .i64 0, .int .i64 0, .int .i64 0, .int .i64 0, .int .i64 0, .int .i64 0, .int .i64 0, .string ByteArray.empty, .slice none 0 0, .int .i64 0, .slice none 0 0]
    have z0 := hF.cell 0 _ rfl
    have z1 := hF.cell 1 _ rfl
    have z2 := hF.cell 2 _ rfl
    have z3 := hF.cell 3 _ rfl
    have z4 := hF.cell 4 _ rfl
    have z5 := hF.cell 5 _ rfl
    have z6 := hF.cell 6 _ rfl
    have z7 := hF.cell 7 _ rfl
    have z8 := hF.cell 8 _ rfl
    have z9 := hF.cell 9 _ rfl
    have z10 := hF.cell 10 _ rfl
    have z11 := hF.cell 11 _ rfl
    have z12 := hF.cell 12 _ rfl
    have z13 := hF.cell 13 _ rfl
    have hbF := below_setRow hb (Nat.le_refl _) #[.int .i64 0, .int .i64 0, .int .i64 0, .int .i64 0, .int .i64 0, .int .i64 0, .int .i64 0, .int .i64 0, .int .i64 0, .int .i64 0, .string ByteArray.empty, .slice none 0 0, .int .i64 0, .slice none 0 0]
    exact bodyPost_ret (v := .tuple #[.slice A n c, .agg #[.int .i64 0, .int .i64 0, .int .i64 0, .int .i64 0, .int .i64 0, .int .i64 0, .int .i64 0, .int .i64 0, .int .i64 0, .int .i64 0, .string ByteArray.empty, .slice none 0 0, .int .i64 0, .slice none 0 0], .int .i64 6]) (by simp [results, Try.results18, go_sem, z0, z1, z2, z3, z4, z5, z6, z7, z8, z9, z10, z11, z12, z13]) rfl ⟨rfl, hbF⟩
  · have hk2 : (n : Int) ≤ k := by omega
    have hk3 : ¬ k < 0 := by omega
    clear hk
    go_enter Try.func18, Try.ntmps18
    go_upto_region 1 with fail
    generalize w.alloc (.cells #[.int .i64 0, .int .i64 0, .int .i64 0, .int .i64 0, .int .i64 0, .int .i64 0, .int .i64 0, .int .i64 0, .int .i64 0, .int .i64 0, .string ByteArray.empty, .slice none 0 0, .int .i64 0, .slice none 0 0] 32) = W at hB hb
    go_wp2_with (refine wpList_storeBlk rfl (.tmp 5) (.tmp 17) rfl rfl [.int .i64 0, .int .i64 0, .int .i64 0, .int .i64 0, .int .i64 0, .int .i64 0, .int .i64 0, .int .i64 0, .int .i64 0, .int .i64 0, .string ByteArray.empty, .slice none 0 0, .int .i64 0, .slice none 0 0] rfl rfl (by kernel_rfl) hB rfl (by simp [Value.oneCell']) ?_)
    have hF := hB.setRow [.int .i64 0, .int .i64 0, .int .i64 0, .int .i64 0, .int .i64 0, .int .i64 0, .int .i64 0, .int .i64 0, .int .i64 0, .int .i64 0, .string ByteArray.empty, .slice none 0 0, .int .i64 0, .slice none 0 0]
    have z0 := hF.cell 0 _ rfl
    have z1 := hF.cell 1 _ rfl
    have z2 := hF.cell 2 _ rfl
    have z3 := hF.cell 3 _ rfl
    have z4 := hF.cell 4 _ rfl
    have z5 := hF.cell 5 _ rfl
    have z6 := hF.cell 6 _ rfl
    have z7 := hF.cell 7 _ rfl
    have z8 := hF.cell 8 _ rfl
    have z9 := hF.cell 9 _ rfl
    have z10 := hF.cell 10 _ rfl
    have z11 := hF.cell 11 _ rfl
    have z12 := hF.cell 12 _ rfl
    have z13 := hF.cell 13 _ rfl
    have hbF := below_setRow hb (Nat.le_refl _) #[.int .i64 0, .int .i64 0, .int .i64 0, .int .i64 0, .int .i64 0, .int .i64 0, .int .i64 0, .int .i64 0, .int .i64 0, .int .i64 0, .string ByteArray.empty, .slice none 0 0, .int .i64 0, .slice none 0 0]
    exact bodyPost_ret (v := .tuple #[.slice A n c, .agg #[.int .i64 0, .int .i64 0, .int .i64 0, .int .i64 0, .int .i64 0, .int .i64 0, .int .i64 0, .int .i64 0, .int .i64 0, .int .i64 0, .string ByteArray.empty, .slice none 0 0, .int .i64 0, .slice none 0 0], .int .i64 6]) (by simp [results, Try.results18, go_sem, z0, z1, z2, z3, z4, z5, z6, z7, z8, z9, z10, z11, z12, z13]) rfl ⟨rfl, hbF⟩

/-- The reference's Flush of what waits. -/
def RFlushPost (w : World) (os : List (List Value)) (q k : Nat) (e : Ending) (w' : World) : Prop :=
  ∃ A c rs, Hid (rs = os.eraseIdx k) ∧ e = .returned (.tuple #[.slice A q c, .bool true]) ∧ OwR w' w.heap.size 32 14 A q c rs ∧ Below w.heap.size w w'
set_option maxRecDepth 100000 in
set_option maxHeartbeats 4000000 in
theorem refFlush_in (A : Option Addr) (n c q k : Nat) (os : List (List Value)) (ts : List Int) (tag : Int) (w : World) (h : RdR w w.heap.size 14 A n os) (ht : TagsAre os n ts) (hnc : n ≤ c) (hn8 : n ≤ 8) (hq : n = q + 1) (hk : k ≤ q) (hp : placeL ts tag = k) (h1 : ∀ r ∈ os, ∀ v ∈ r, v.oneCell' = true) :
    Calls Try.prog 19 #[.slice A n c, .int .i64 tag] w (RFlushPost w os q k) := by
  obtain ⟨r, hr⟩ : ∃ r, os[k]? = some r := ⟨os[k]'(by rw [h.2.1]; omega), List.getElem?_eq_getElem _⟩
  obtain ⟨x0, x1, x2, x3, x4, x5, x6, x7, x8, x9, x10, x11, x12, x13, rfl⟩ := row14 r (h.1 r (List.mem_of_getElem? hr))
  have hone : ∀ v ∈ ([x0, x1, x2, x3, x4, x5, x6, x7, x8, x9, x10, x11, x12, x13] : List Value), v.oneCell' = true := h1 _ (List.mem_of_getElem? hr)
  have hz := askZ_zero
  have H := Lib.hid h
  have HT := Lib.hid ht
  have H1 := Lib.hid h1
  have HR := Lib.hid hr
  have HP := Lib.hid hp
  have HQ := Lib.hid hq
  have hkq := hk
  clear h ht h1 hr hp hq
  go_enter Try.func19, Try.ntmps19
  go_wp2_with fail
  refine (refFind_any A n c os ts tag _ H.out HT.out (by omega)).mono ?_
  rintro e w1 ⟨rfl, rfl⟩
  rw [HP.out]
  go_wp2_with fail
  refine (refPick_in A n c q k os x0 x1 x2 x3 x4 x5 x6 x7 x8 x9 x10 x11 x12 x13 _ H.out hnc hn8 HQ.out hkq HR.out H1.out).mono ?_
  rintro e w2 ⟨A2, c2, rs2, hrs2, rfl, hO2, hb2⟩
  have hBz := Blk.new w2 32 [.int .i64 0, .int .i64 0, .int .i64 0, .int .i64 0, .int .i64 0, .int .i64 0, .int .i64 0, .int .i64 0, .int .i64 0, .int .i64 0, .string ByteArray.empty, .slice none 0 0, .int .i64 0, .slice none 0 0]
  have hbS : Below w2.heap.size w2 ((w2.alloc (.cells #[.int .i64 0, .int .i64 0, .int .i64 0, .int .i64 0, .int .i64 0, .int .i64 0, .int .i64 0, .int .i64 0, .int .i64 0, .int .i64 0, .string ByteArray.empty, .slice none 0 0, .int .i64 0, .slice none 0 0] 32)).setRow w2.heap.size #[x0, x1, x2, x3, x4, x5, x6, x7, x8, x9, x10, x11, x12, x13]) := below_setRow ((Below.refl _ _).alloc (Nat.le_refl _) _) (Nat.le_refl _) _
  go_upto_region 2 with (refine wpList_storeBlk rfl (.tmp 7) (.tmp 16) rfl rfl [x0, x1, x2, x3, x4, x5, x6, x7, x8, x9, x10, x11, x12, x13] rfl rfl (by kernel_rfl) hBz rfl hone ?_)
  clear hBz
  generalize (w2.alloc (.cells #[.int .i64 0, .int .i64 0, .int .i64 0, .int .i64 0, .int .i64 0, .int .i64 0, .int .i64 0, .int .i64 0, .int .i64 0, .int .i64 0, .string ByteArray.empty, .slice none 0 0, .int .i64 0, .slice none 0 0] 32)).setRow w2.heap.size #[x0, x1, x2, x3, x4, x5, x6, x7, x8, x9, x10, x11, x12, x13] = w3 at hbS
  have HO3 := Lib.hid (hO2.up hbS)
  have HB3 := Lib.hid (Up.trans hb2 hbS)
  clear hO2 hb2 hbS
  go_wp2
  go_ret2
  exact ⟨A2, c2, rs2, hrs2, rfl, HO3.out, HB3.out⟩

set_option maxRecDepth 100000 in
set_option maxHeartbeats 4000000 in
theorem refFlush_out (A : Option Addr) (n c : Nat) (os : List (List Value)) (ts : List Int) (tag : Int) (w : World) (h : RdR w w.heap.size 14 A n os) (ht : TagsAre os n ts) (hn8 : n ≤ 8) (hp : tag ∉ ts) :
    Calls Try.prog 19 #[.slice A n c, .int .i64 tag] w fun e w' => e = .returned (.tuple #[.slice A n c, .bool false]) ∧ Below w.heap.size w w' := by
  have hz := askZ_zero
  have H := Lib.hid h
  have HT := Lib.hid ht
  have HP := Lib.hid (placeL_none hp)
  clear h ht hp
  go_enter Try.func19, Try.ntmps19
  go_wp2_with fail
  refine (refFind_any A n c os ts tag _ H.out HT.out (by omega)).mono ?_
  rintro e w1 ⟨rfl, rfl⟩
  rw [HP.out]
  go_wp2_with fail
  refine (refPick_none A n c (-1) _ (by omega)).mono ?_
  rintro e w2 ⟨rfl, hb2⟩
  have hBz := Blk.new w2 32 [.int .i64 0, .int .i64 0, .int .i64 0, .int .i64 0, .int .i64 0, .int .i64 0, .int .i64 0, .int .i64 0, .int .i64 0, .int .i64 0, .string ByteArray.empty, .slice none 0 0, .int .i64 0, .slice none 0 0]
  have hbS : Below w2.heap.size w2 ((w2.alloc (.cells #[.int .i64 0, .int .i64 0, .int .i64 0, .int .i64 0, .int .i64 0, .int .i64 0, .int .i64 0, .int .i64 0, .int .i64 0, .int .i64 0, .string ByteArray.empty, .slice none 0 0, .int .i64 0, .slice none 0 0] 32)).setRow w2.heap.size #[.int .i64 0, .int .i64 0, .int .i64 0, .int .i64 0, .int .i64 0, .int .i64 0, .int .i64 0, .int .i64 0, .int .i64 0, .int .i64 0, .string ByteArray.empty, .slice none 0 0, .int .i64 0, .slice none 0 0]) := below_setRow ((Below.refl _ _).alloc (Nat.le_refl _) _) (Nat.le_refl _) _
  go_upto_region 2 with (refine wpList_storeBlk rfl (.tmp 7) (.tmp 16) rfl rfl [.int .i64 0, .int .i64 0, .int .i64 0, .int .i64 0, .int .i64 0, .int .i64 0, .int .i64 0, .int .i64 0, .int .i64 0, .int .i64 0, .string ByteArray.empty, .slice none 0 0, .int .i64 0, .slice none 0 0] rfl rfl (by kernel_rfl) hBz rfl (by simp [Value.oneCell']) ?_)
  clear hBz
  generalize (w2.alloc (.cells #[.int .i64 0, .int .i64 0, .int .i64 0, .int .i64 0, .int .i64 0, .int .i64 0, .int .i64 0, .int .i64 0, .int .i64 0, .int .i64 0, .string ByteArray.empty, .slice none 0 0, .int .i64 0, .slice none 0 0] 32)).setRow w2.heap.size #[.int .i64 0, .int .i64 0, .int .i64 0, .int .i64 0, .int .i64 0, .int .i64 0, .int .i64 0, .int .i64 0, .int .i64 0, .int .i64 0, .string ByteArray.empty, .slice none 0 0, .int .i64 0, .slice none 0 0] = w3 at hbS
  have HB3 := Lib.hid (Up.trans hb2 hbS)
  clear hb2 hbS
  go_wp2
  go_ret2
  exact ⟨rfl, HB3.out⟩

/-- The reference's Put. -/
def RPutPost (w : World) (A : Option Addr) (n c most : Nat) (os : List (List Value)) (ts : List Int) (tag : Int) (r : List Value) (e : Ending) (w' : World) : Prop :=
  (tag ∈ ts ∧ e = .returned (.tuple #[.slice A n c, .int .i64 7]) ∧ Below w.heap.size w w') ∨ (tag ∉ ts ∧ most ≤ n ∧ e = .returned (.tuple #[.slice A n c, .int .i64 5]) ∧ Below w.heap.size w w') ∨
  (tag ∉ ts ∧ n < most ∧ ∃ A' c' rs, Hid (rs = os ++ [r]) ∧ e = .returned (.tuple #[.slice A' (n + 1) c', .int .i64 0]) ∧ OwR w' w.heap.size 32 14 A' (n + 1) c' rs ∧ Below w.heap.size w w')
set_option maxRecDepth 100000 in
set_option maxHeartbeats 4000000 in
theorem refPut_any (A : Option Addr) (n c most : Nat) (os : List (List Value)) (ts : List Int) (x0 x2 x3 x4 x5 x6 x7 x8 x9 x10 x11 x12 x13 : Value) (tag : Int) (w : World) (h : RdR w w.heap.size 14 A n os) (ht : TagsAre os n ts) (hn8 : n ≤ 8) (hm8 : most ≤ 8) (h1 : ∀ r ∈ os, ∀ v ∈ r, v.oneCell' = true) (hone : ∀ v ∈ ([x0, .int .i64 tag, x2, x3, x4, x5, x6, x7, x8, x9, x10, x11, x12, x13] : List Value), v.oneCell' = true) :
    Calls Try.prog 20 #[.slice A n c, .agg #[x0, .int .i64 tag, x2, x3, x4, x5, x6, x7, x8, x9, x10, x11, x12, x13], .int .i64 most] w (RPutPost w A n c most os ts tag [x0, .int .i64 tag, x2, x3, x4, x5, x6, x7, x8, x9, x10, x11, x12, x13]) := by
  have hB := Blk.new w 32 [x0, .int .i64 tag, x2, x3, x4, x5, x6, x7, x8, x9, x10, x11, x12, x13]
  have hb := (Below.refl w.heap.size w).alloc (Nat.le_refl _) (.cells #[x0, .int .i64 tag, x2, x3, x4, x5, x6, x7, x8, x9, x10, x11, x12, x13] 32)
  have hR := h.up hb
  have HT := Lib.hid ht
  have H1 := Lib.hid h1
  have HONE := Lib.hid hone
  clear h ht h1 hone
  go_enter Try.func20, Try.ntmps20
  go_upto_region 1 with fail
  generalize w.alloc (.cells #[x0, .int .i64 tag, x2, x3, x4, x5, x6, x7, x8, x9, x10, x11, x12, x13] 32) = W at hB hb hR
  have hgW := hB.lt
  have b1 := hB.cell 1 _ rfl
  have HB := Lib.hid hB
  have Hb := Lib.hid hb
  have HR := Lib.hid hR
  clear hB hb hR
  go_wp2_with fail
  refine (refFind_any A n c os ts tag _ HR.out HT.out (by omega)).mono ?_
  rintro e w1 ⟨rfl, rfl⟩
  by_cases hin : tag ∈ ts
  · have hp := placeL_some hin
    go_wp2
    go_ret2
    exact .inl ⟨hin, rfl, Hb.out⟩
  · have hp := placeL_none hin
    rw [hp]
    have hp2 : ¬ (0 : Int) ≤ -1 := by omega
    clear hp
    by_cases hf : most ≤ n
    · have hf2 : (most : Int) ≤ n := by omega
      go_wp2
      go_ret2
      exact .inr (.inl ⟨hin, hf, rfl, Hb.out⟩)
    · have hf2 : ¬ (most : Int) ≤ n := by omega
      have Hs1 := Lib.hid (HR.out.src (P := Try.prog) (c := c) (by omega) 40 32 Try.underlying40 H1.out)
      have hgW1 : w.heap.size + 1 ≤ W.heap.size := hgW
      go_upto_region 7 with (at_builtin; go_must (refine wpList_appendRs askElem rfl (.tmp 20) (.tmp 21) 40 rfl (w.heap.size + 1) none 0 0 [] rfl (OwR.nil _ _ _ _) _ rfl n os HR.out.1 HR.out.2.1 Hs1.out (by omega) (by omega) hgW1 ?_); intro A2 n2 c2 rs2 w2 hrs2 hn2 hown2 hb2 hg2; simp only [Act.put, List.setIfInBounds_toArray, List.set_cons_succ, List.set_cons_zero])
      obtain rfl : n2 = n := by rw [hn2.out]; omega
      obtain rfl : rs2 = os := by rw [hrs2.out]; rfl
      have hB2 := HB.out.below hb2 (Nat.lt_succ_self _)
      have b0_ := hB2.cell 0 _ rfl
      have b1_ := hB2.cell 1 _ rfl
      have b2_ := hB2.cell 2 _ rfl
      have b3_ := hB2.cell 3 _ rfl
      have b4_ := hB2.cell 4 _ rfl
      have b5_ := hB2.cell 5 _ rfl
      have b6_ := hB2.cell 6 _ rfl
      have b7_ := hB2.cell 7 _ rfl
      have b8_ := hB2.cell 8 _ rfl
      have b9_ := hB2.cell 9 _ rfl
      have b10_ := hB2.cell 10 _ rfl
      have b11_ := hB2.cell 11 _ rfl
      have b12_ := hB2.cell 12 _ rfl
      have b13_ := hB2.cell 13 _ rfl
      have Hsrc := Lib.hid (Src.oneR (P := Try.prog) (k := 14) w2 40 32 Try.underlying40 [x0, .int .i64 tag, x2, x3, x4, x5, x6, x7, x8, x9, x10, x11, x12, x13] rfl HONE.out #[x0, .int .i64 tag, x2, x3, x4, x5, x6, x7, x8, x9, x10, x11, x12, x13] rfl 32)
      have hsz : w.heap.size + 1 ≤ (w2.alloc (.cells #[x0, .int .i64 tag, x2, x3, x4, x5, x6, x7, x8, x9, x10, x11, x12, x13] 32)).heap.size := by have := hb2.size; simp; omega
      have HO2 := Lib.hid hown2
      have HB2 := Lib.hid (Hb.out.trans (hb2.mono (by omega)))
      clear hown2 hb2 hg2 hB2 b1
      go_wp2_with (at_builtin; go_must (refine wpList_appendR askElem rfl (.tmp 23) (.tmp 25) 40 rfl (w.heap.size + 1) A2 n2 c2 rs2 rfl (HO2.out.alloc _) _ rfl [x0, .int .i64 tag, x2, x3, x4, x5, x6, x7, x8, x9, x10, x11, x12, x13] rfl Hsrc.out (by omega) (by omega) hsz ?_); intro A3 n3 c3 rs3 w3 hrs3 hn3 hown3 hb3 hg3)
      obtain rfl : n3 = n2 + 1 := hn3.out
      go_ret2
      exact .inr (.inr ⟨hin, by omega, A3, c3, rs3, hrs3, rfl, hown3.lower (by omega), (HB2.out.alloc HB2.out.size (.cells #[x0, .int .i64 tag, x2, x3, x4, x5, x6, x7, x8, x9, x10, x11, x12, x13] 32)).trans (hb3.mono (by omega))⟩)
end Go.Proofs.Ytgogdgpdkkbfhaa
