/-
  Layer 11: Get.
-/
import Derived.Test.YtoaemkbdfinaoaaDirM
import Derived.Test.YtoaemkbdfinaoaaLawDRow
namespace Go.Proofs.Ytoaemkbdfinaoaa
open Go.RowKit
set_option linter.unusedVariables false
set_option linter.unusedSimpArgs false

/-- Where a name stands, when it stands. -/
theorem has_at {es : List EntI} {s : List UInt8} (hs : Srt es) (h : hasN es s = true) : ∃ x, es[posN es s]? = some x ∧ x.1 = s := by
  have h1 := has_is es s (posN es s) hs (posN_low es s) (fun k a hk ha => by
    rcases Nat.eq_or_lt_of_le hk with e | hlt
    · subst e; exact posN_at es s a ha
    · have hp : posN es s < es.length := Nat.lt_trans hlt (List.getElem?_eq_some_iff.1 ha).1
      have := hs _ _ _ a (List.getElem?_eq_getElem hp) ha hlt
      have h2 := posN_at es s _ (List.getElem?_eq_getElem hp)
      rcases hl : lessB a.1 s with _ | _
      · rfl
      · exact absurd (less_trans _ _ _ this hl) (by rw [h2]; simp))
  unfold hasN at h
  rw [List.any_eq_true] at h
  obtain ⟨x, hx, hxs⟩ := h
  have hxs : x.1 = s := by simpa using hxs
  obtain ⟨k, hk⟩ := List.getElem?_of_mem hx
  have hkp : k = posN es s := by
    rcases Nat.lt_trichotomy k (posN es s) with h | h | h
    · have := posN_low es s k x h hk; rw [hxs, less_irrefl] at this; cases this
    · exact h
    · have hp : posN es s < es.length := Nat.lt_trans h (List.getElem?_eq_some_iff.1 hk).1
      have h3 := hs _ _ _ x (List.getElem?_eq_getElem hp) hk h
      have h2 := posN_at es s _ (List.getElem?_eq_getElem hp)
      rw [hxs] at h3
      rw [h3] at h2; cases h2
  subst hkp
  exact ⟨x, hk, hxs⟩
/-- A name stands once. -/
theorem find_pos {es : List EntI} {s : List UInt8} {i : Nat} {x : EntI} (hs : Srt es) (h : es[i]? = some x) (hx : x.1 = s) : i = posN es s := by
  rcases Nat.lt_trichotomy i (posN es s) with h1 | h1 | h1
  · have := posN_low es s i x h1 h; rw [hx, less_irrefl] at this; cases this
  · exact h1
  · have hp : posN es s < es.length := Nat.lt_trans h1 (List.getElem?_eq_some_iff.1 h).1
    have h3 := hs _ _ _ x (List.getElem?_eq_getElem hp) h h1
    have h2 := posN_at es s _ (List.getElem?_eq_getElem hp)
    rw [hx] at h3
    rw [h3] at h2; cases h2
def getE (es : List EntI) (s : List UInt8) : Int × Int × Int :=
  if hasN es s = true then (((es[posN es s]?).getD ([], 0, 0)).2.1, ((es[posN es s]?).getD ([], 0, 0)).2.2, 0) else (0, 0, 9)
def GetPost (es : List EntI) (s : List UInt8) (w : World) (x : Ending) (w' : World) : Prop :=
  ∃ a b r : Int, Hid ((a, b, r) = getE es s) ∧ x = .returned (.tuple #[.agg #[.int .i64 a, .int .i64 b], .int .i64 r]) ∧ Below w.heap.size w w'
theorem getE_no {es : List EntI} {s : List UInt8} (h : hasN es s = false) : ((0 : Int), (0 : Int), (9 : Int)) = getE es s := by
  unfold getE; rw [if_neg (by rw [h]; simp)]
theorem getE_at {es : List EntI} {s : List UInt8} {i : Nat} {x : EntI} (hs : Srt es) (h : es[i]? = some x) (hx : x.1 = s) : (x.2.1, x.2.2, (0 : Int)) = getE es s := by
  unfold getE
  rw [if_pos (has_of_find h hx), ← find_pos hs h hx, h]
  rfl

set_option maxHeartbeats 4000000 in
theorem get_any (g : Nat) (A : Option Addr) (n c : Nat) (es : List EntI) (s : List UInt8) (w : World) (h : Dr w g A n c es) (hn : n ≤ 1000) :
    Calls Try.prog 21 #[.pointer (some ⟨g, 0, none⟩), .string (st s)] w (GetPost es s w) := by
  obtain ⟨W, hW⟩ : ∃ W, W = w.alloc (.cells #[.int .i64 0, .int .i64 0] 31) := ⟨_, rfl⟩
  have hB : Blk W w.heap.size 31 [.int .i64 0, .int .i64 0] := by rw [hW]; exact Blk.new w 31 [.int .i64 0, .int .i64 0]
  have hb : Below w.heap.size w W := by rw [hW]; exact (Below.refl _ _).alloc (Nat.le_refl _) _
  have HB := Lib.hid hB
  have Hb := Lib.hid hb
  have H := Lib.hid (h.up hb)
  have HW := Lib.hid hW
  clear hB hb hW h
  go_enter Try.func21, Try.ntmps21
  go_upto_region 1 with fail
  rw [← HW.out]
  go_wp2_with fail
  refine (find_any g A n c es s _ H.out (by omega)).mono ?_
  rintro e w1 ⟨i, b, hi, hbn, rfl, hb1⟩
  have H1 := Lib.hid (H.out.up hb1)
  have HB1 := Lib.hid (HB.out.up hb1)
  have Hb1 := Lib.hid (Up.trans' Hb.out hb1)
  clear hb1
  rcases b with _ | _
  case false =>
    have HR := Lib.hid (getE_no hbn.out.symm)
    clear hi hbn
    go_upto_region 3 with fail
    go_wp2_with (refine wpList_storeBlk rfl (.tmp 4) (.tmp 16) rfl rfl [.int .i64 0, .int .i64 0] rfl rfl (by kernel_rfl) HB1.out rfl (by simp [Value.oneCell']) ?_)
    have hF := HB1.out.setRow [.int .i64 0, .int .i64 0]
    have z0 := hF.cell 0 _ rfl
    have z1 := hF.cell 1 _ rfl
    go_wp2
    exact bodyPost_ret (v := .tuple #[.agg #[.int .i64 0, .int .i64 0], .int .i64 9]) (by simp [results, Try.results21, go_sem, z0, z1]) rfl ⟨0, 0, 9, HR, rfl, below_setRow Hb1.out (Nat.le_refl _) _⟩
  case true =>
    obtain ⟨x, hx, hxs⟩ := has_at H1.out.s hbn.out.symm
    rw [← hi.out] at hx
    have HR := Lib.hid (getE_at H1.out.s hx hxs)
    have hin : i < n := by have := H1.out.len; have h2 := (List.getElem?_eq_some_iff.1 hx).1; omega
    have i1 : (i : Int) < n := by omega
    have i0 : (0 : Int) ≤ i := by omega
    obtain ⟨bk, off, r, hA, hbl, hr, _, hc⟩ := H1.out.o.rd.at_ hin
    subst hA
    rw [List.getElem?_map, hx] at hr
    obtain rfl : r = eiC x := by simpa using hr.symm
    have d0 := H1.out.b.cell 0 _ rfl
    have d1 := hc 1 _ rfl
    have d2 := hc 2 _ rfl
    obtain ⟨xn, xi, xg⟩ := x
    clear hi hbn hx hxs hr hc hbl
    go_upto_region 4 with fail
    go_wp2_with (refine wpList_storeBlk rfl (.tmp 4) (.tmp 24) rfl rfl [.int .i64 xi, .int .i64 xg] rfl rfl (by kernel_rfl) HB1.out rfl (by simp [Value.oneCell']) ?_)
    have hF := HB1.out.setRow [.int .i64 xi, .int .i64 xg]
    have z0 := hF.cell 0 _ rfl
    have z1 := hF.cell 1 _ rfl
    go_wp2
    exact bodyPost_ret (v := .tuple #[.agg #[.int .i64 xi, .int .i64 xg], .int .i64 0]) (by simp [results, Try.results21, go_sem, z0, z1]) rfl ⟨xi, xg, 0, HR, rfl, below_setRow Hb1.out (Nat.le_refl _) _⟩
end Go.Proofs.Ytoaemkbdfinaoaa
