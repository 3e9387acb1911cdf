/-
  Layer 11: where a name stands (the binary search).
-/
import Derived.Test.YtoaemkbdfinaoaaDirA
import Derived.Deep.CutBlock
namespace Go.Proofs.Ytoaemkbdfinaoaa
open Go.RowKit
set_option linter.unusedVariables false
set_option linter.unusedSimpArgs false

theorem Up.trans' {a b c : World} (h : Below a.heap.size a b) (k : Below b.heap.size b c) : Below a.heap.size a c := h.trans (k.mono h.size)
theorem entryT_agg (w : World) : (isAgg 42).run Try.prog w = .ok true w := by kernel_rfl
/-- The entries stand in their names' row. -/
def Srt (es : List EntI) : Prop := ∀ (i j : Nat) (a b : EntI), es[i]? = some a → es[j]? = some b → i < j → lessB a.1 b.1 = true
/-- How many stand ahead of a name. -/
def posN (es : List EntI) (s : List UInt8) : Nat := (es.takeWhile fun e => lessB e.1 s).length
def hasN (es : List EntI) (s : List UInt8) : Bool := es.any fun e => e.1 == s

theorem cmpE_any (e : EntI) (s : List UInt8) (w : World) : Calls Try.prog 38 #[.agg (eiC e).toArray, .string (st s)] w fun x w' => x = .returned (.int .i64 (Lib.compareBytes e.1 s)) ∧ Below w.heap.size w w' := by
  have hB := Blk.new w 42 (eiC e)
  obtain ⟨W, hW⟩ : ∃ W, W = w.alloc (.cells (eiC e).toArray 42) := ⟨_, rfl⟩
  have hb : Below w.heap.size w W := by rw [hW]; exact (Below.refl _ _).alloc (Nat.le_refl _) _
  rw [← hW] at hB
  have HB := Lib.hid hB
  have Hb := Lib.hid hb
  have HW := Lib.hid hW
  have c0 := hB.cell 0 _ rfl
  clear hB hb hW
  go_enter Try.func38, Try.ntmps38
  go_upto_region 1 with fail
  rw [← HW.out]
  go_wp2_with fail
  refine (compare_any e.1 s _).mono ?_
  rintro x w1 ⟨rfl, rfl⟩
  go_wp2
  go_ret
  exact ⟨rfl, Hb.out⟩

theorem takeWhile_len {α : Type} (p : α → Bool) : ∀ (l : List α) (i : Nat), i ≤ l.length → (∀ k a, k < i → l[k]? = some a → p a = true) → (∀ a, l[i]? = some a → p a = false) → (l.takeWhile p).length = i
  | [], i, h, _, _ => by simp at h; simp [h]
  | x :: l, 0, _, _, h2 => by have := h2 x rfl; simp [List.takeWhile, this]
  | x :: l, i + 1, h, h1, h2 => by
    have h0 := h1 0 x (by omega) rfl
    have ih := takeWhile_len p l i (by simpa using h) (fun k a hk ha => h1 (k + 1) a (by omega) (by simpa using ha)) (fun a ha => h2 a (by simpa using ha))
    simp [List.takeWhile, h0, ih]
theorem pos_is (es : List EntI) (s : List UInt8) (i : Nat) (hi : i ≤ es.length) (h1 : ∀ k a, k < i → es[k]? = some a → lessB a.1 s = true) (h2 : ∀ k a, i ≤ k → es[k]? = some a → lessB a.1 s = false) : i = posN es s :=
  (takeWhile_len (fun e : EntI => lessB e.1 s) es i hi h1 (fun a ha => h2 i a (Nat.le_refl _) ha)).symm
theorem has_is (es : List EntI) (s : List UInt8) (i : Nat) (hs : Srt es) (h1 : ∀ k a, k < i → es[k]? = some a → lessB a.1 s = true) (h2 : ∀ k a, i ≤ k → es[k]? = some a → lessB a.1 s = false) :
    hasN es s = match es[i]? with | some x => decide (Lib.compareBytes x.1 s = 0) | none => false := by
  rw [Bool.eq_iff_iff]
  unfold hasN
  rw [List.any_eq_true]
  constructor
  · rintro ⟨a, ha, he⟩
    obtain ⟨k, hk⟩ := List.getElem?_of_mem ha
    have he : a.1 = s := by simpa using he
    rcases Nat.lt_trichotomy k i with h | h | h
    · have := h1 k a h hk; rw [he, less_irrefl] at this; cases this
    · subst h; rw [hk]; simp only [decide_eq_true_eq, cmp_zero]; exact he
    · cases hi : es[i]? with
      | none => rw [List.getElem?_eq_none_iff] at hi; have := (List.getElem?_eq_some_iff.1 hk).1; omega
      | some x =>
        have hlt := hs i k x a hi hk h
        rw [he] at hlt
        have := h2 i x (Nat.le_refl _) hi
        rw [hlt] at this; cases this
  · intro h
    cases hi : es[i]? with
    | none => rw [hi] at h; cases h
    | some x =>
      rw [hi] at h
      simp only [decide_eq_true_eq, cmp_zero] at h
      exact ⟨x, List.mem_of_getElem? hi, by simp [h]⟩
def FindPost (es : List EntI) (s : List UInt8) (w : World) (x : Ending) (w' : World) : Prop :=
  ∃ i : Nat, ∃ b : Bool, Hid (i = posN es s) ∧ Hid (b = hasN es s) ∧ x = .returned (.tuple #[.int .i64 i, .bool b]) ∧ Below w.heap.size w w'
def BsJ (es : List EntI) (s : List UInt8) (w : World) (x y : Value) (wr : World) : Prop :=
  ∃ lo hi : Nat, x = .int .i64 lo ∧ y = .int .i64 hi ∧ lo ≤ hi ∧ hi ≤ es.length ∧ Hid (∀ k a, k < lo → es[k]? = some a → lessB a.1 s = true) ∧ Hid (∀ k a, hi ≤ k → es[k]? = some a → lessB a.1 s = false) ∧ Below w.heap.size w wr

set_option maxHeartbeats 4000000 in
theorem search_any (A : Option Addr) (n c : Nat) (es : List EntI) (s : List UInt8) (w : World) (h : RdR w w.heap.size 3 A n (es.map eiC)) (hs : Srt es) (hn : n ≤ 1000000) :
    Calls Try.prog 37 #[.slice A n c, .string (st s), .func (.func 38) #[] #[]] w (FindPost es s w) := by
  have hln : es.length = n := by have := h.len; simpa using this
  have HR := Lib.hid h
  have HS := Lib.hid hs
  have HL := Lib.hid hln
  clear h hs hln
  go_enter Try.func37, Try.ntmps37
  go_wp2
  go_loopw [9, 10] (fun x y wr => BsJ es s w x y wr) (fun x y _ => (intOf y - intOf x).toNat)
  case atStart => exact ⟨0, n, rfl, rfl, by omega, by rw [HL.out]; exact Nat.le_refl _, Lib.hid (fun k a hk => absurd hk (by omega)), Lib.hid (fun k a hk ha => by rw [List.getElem?_eq_none (by rw [HL.out]; omega)] at ha; cases ha), Below.refl _ _⟩
  case round =>
    obtain ⟨lo, hi, rfl, rfl, hlh, hhn, hlow, hhigh, hbw⟩ := hrel
    by_cases hlt : lo < hi
    · have j1 : (lo : Int) < hi := by omega
      obtain ⟨h, hh⟩ : ∃ h, h = (lo + hi) / 2 := ⟨_, rfl⟩
      have hh1 : lo ≤ h ∧ h < hi := by omega
      have hhl : h < n := by rw [← HL.out]; omega
      have j2 : (h : Int) < n := by omega
      have j3 : (0 : Int) ≤ h := by omega
      obtain ⟨b, off, r, hA, hbl, hr, _, hc⟩ := (HR.out.below hbw).at_ hhl
      subst hA
      have hjl : h < es.length := by rw [HL.out]; exact hhl
      obtain ⟨x, hx⟩ : ∃ x, x = es[h] := ⟨_, rfl⟩
      have hxe : es[h]? = some x := by rw [List.getElem?_eq_getElem hjl, hx]
      rw [List.getElem?_map, hxe] at hr
      obtain rfl : r = eiC x := by simpa using hr.symm
      have d0 := hc 0 _ rfl
      have d1 := hc 1 _ rfl
      have d2 := hc 2 _ rfl
      simp only [Nat.add_zero] at d0
      have HB := Lib.hid hbw
      have HX := Lib.hid hxe
      have e1 : ((lo : Int) + hi) / 2 = h := by omega
      have HH := Lib.hid hh
      clear hr hx hc hbw hxe hh
      go_wp2_with fail
      refine (cmpE_any x s _).mono ?_
      rintro e w2 ⟨rfl, hb2⟩
      have HB2 := Lib.hid (Up.trans' HB.out hb2)
      clear hb2
      by_cases hle : lessB x.1 s = true
      · have t0 : Lib.compareBytes x.1 s < 0 := (cmp_less x.1 s).2 hle
        have HLE := Lib.hid hle
        clear hle
        go_wp2
        go_roundw
        case rel => exact ⟨h + 1, hi, by go_num, rfl, by omega, hhn, Lib.hid (fun k a hk ha => by
          rcases Nat.lt_or_ge k h with hkh | hkh
          · exact less_trans _ _ _ (HS.out k h a x ha HX.out hkh) HLE.out
          · obtain rfl : k = h := by omega
            rw [HX.out] at ha; cases ha; exact HLE.out), Lib.hid hhigh.out, HB2.out⟩
        case measure => simp [intOf]; omega
      · have t0 : ¬ Lib.compareBytes x.1 s < 0 := fun h => hle ((cmp_less x.1 s).1 h)
        have HLE := Lib.hid (Bool.eq_false_iff.2 hle)
        clear hle
        go_wp2
        go_roundw
        case rel => exact ⟨lo, h, rfl, rfl, hh1.1, by omega, Lib.hid hlow.out, Lib.hid (fun k a hk ha => by
          rcases Nat.lt_or_ge h k with hkh | hkh
          · rcases hb : lessB a.1 s with _ | _
            · rfl
            · have := less_trans _ _ _ (HS.out h k x a HX.out ha hkh) hb
              rw [HLE.out] at this; cases this
          · obtain rfl : k = h := by omega
            rw [HX.out] at ha; cases ha; exact HLE.out), HB2.out⟩
        case measure => simp [intOf]; omega
    · obtain rfl : lo = hi := by omega
      have j1 : ¬ (lo : Int) < lo := by omega
      have HPOS := Lib.hid (pos_is es s lo hhn hlow.out hhigh.out)
      have HHAS := Lib.hid (has_is es s lo HS.out hlow.out hhigh.out)
      by_cases hln : lo < n
      · have j2 : (lo : Int) < n := by omega
        have j3 : (0 : Int) ≤ lo := by omega
        obtain ⟨b, off, r, hA, hbl, hr, _, hc⟩ := (HR.out.below hbw).at_ hln
        subst hA
        have hjl : lo < es.length := by rw [HL.out]; exact hln
        obtain ⟨x, hx⟩ : ∃ x, x = es[lo] := ⟨_, rfl⟩
        have hxe : es[lo]? = some x := by rw [List.getElem?_eq_getElem hjl, hx]
        rw [List.getElem?_map, hxe] at hr
        obtain rfl : r = eiC x := by simpa using hr.symm
        have d0 := hc 0 _ rfl
        have d1 := hc 1 _ rfl
        have d2 := hc 2 _ rfl
        simp only [Nat.add_zero] at d0
        have HB := Lib.hid hbw
        have HH2 := Lib.hid (show hasN es s = decide (Lib.compareBytes x.1 s = 0) by rw [HHAS.out, hxe])
        clear hr hx hc hbw hxe
        go_wp2_with fail
        refine (cmpE_any x s _).mono ?_
        rintro e w2 ⟨rfl, hb2⟩
        have HB2 := Lib.hid (Up.trans' HB.out hb2)
        clear hb2
        by_cases hz : Lib.compareBytes x.1 s = 0
        · have t0 : (Lib.compareBytes x.1 s == 0) = true := by rw [hz]; rfl
          have HZ := Lib.hid hz
          clear hz
          go_wp2
          go_ret2
          exact ⟨lo, true, Lib.hid HPOS.out, Lib.hid (by rw [HH2.out, HZ.out]; rfl), rfl, HB2.out⟩
        · have t0 : (Lib.compareBytes x.1 s == 0) = false := by rw [beq_eq_false_iff_ne]; exact hz
          have HZ := Lib.hid hz
          go_wp2
          go_ret2
          exact ⟨lo, false, Lib.hid HPOS.out, Lib.hid (by rw [HH2.out, decide_eq_false HZ.out]), rfl, HB2.out⟩
      · have j2 : ¬ (lo : Int) < n := by omega
        have hnone : es[lo]? = none := List.getElem?_eq_none (by rw [HL.out]; omega)
        have HH2 := Lib.hid (show hasN es s = false by rw [HHAS.out, hnone])
        have HB := Lib.hid hbw
        clear hnone hbw
        go_wp2
        go_ret2
        exact ⟨lo, false, Lib.hid HPOS.out, Lib.hid (by rw [HH2.out]), rfl, HB.out⟩

/-- A directory in block g: its entries lie in memory of their own. -/
structure Dr (w : World) (g : Nat) (A : Option Addr) (n c : Nat) (es : List EntI) : Prop where
  b : Blk w g 65 [.slice A n c]
  o : OwR w 0 42 3 A n c (es.map eiC)
  s : Srt es
theorem Dr.up {w w' : World} {g : Nat} {A : Option Addr} {n c : Nat} {es : List EntI} (h : Dr w g A n c es) (k : Below w.heap.size w w') : Dr w' g A n c es := ⟨h.b.up k, h.o.up k, h.s⟩
theorem Dr.drew {w : World} {g : Nat} {A : Option Addr} {n c : Nat} {es : List EntI} (h : Dr w g A n c es) : Dr w.drew g A n c es := ⟨h.b.drew, h.o.drew, h.s⟩
theorem Dr.len {w : World} {g : Nat} {A : Option Addr} {n c : Nat} {es : List EntI} (h : Dr w g A n c es) : es.length = n := by have := h.o.len; simpa using this

theorem find_any (g : Nat) (A : Option Addr) (n c : Nat) (es : List EntI) (s : List UInt8) (w : World) (h : Dr w g A n c es) (hn : n ≤ 1000000) :
    Calls Try.prog 32 #[.pointer (some ⟨g, 0, none⟩), .string (st s)] w (FindPost es s w) := by
  have c0 := h.b.cell 0 _ rfl
  have H := Lib.hid h
  clear h
  go_enter Try.func32, Try.ntmps32
  go_wp2_with fail
  refine (search_any A n c es s _ H.out.o.rd H.out.s hn).mono ?_
  rintro x w1 ⟨i, b, hi, hb, rfl, hbw⟩
  go_wp2
  go_ret2
  exact ⟨i, b, hi, hb, rfl, hbw⟩
end Go.Proofs.Ytoaemkbdfinaoaa
