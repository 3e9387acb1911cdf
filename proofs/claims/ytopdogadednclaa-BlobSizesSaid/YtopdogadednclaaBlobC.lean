/-
  Package blob and bytes.Clone.
-/
import Derived.Test.YtopdogadednclaaBlobB
import Derived.Test.YtopdogadednclaaBlobP
namespace Go.Proofs.Ytopdogadednclaa
open Go.RowKit
set_option linter.unusedVariables false

theorem own_empty (w : World) (base : Nat) (hb : base ≤ w.heap.size) : OwB (w.alloc (.cells #[] 5)) base (some ⟨w.heap.size, 0, none⟩) 0 0 [] :=
  ⟨by simp [bv], .inr ⟨w.heap.size, 0, #[], (0, 0), rfl, hb, heap_alloc_new w _, .inl (Nat.le_refl _), Nat.le_refl _, by unfold maxLen; omega, by simp, by simp [bv]⟩⟩

theorem clone_any (A : Option Addr) (n c : Nat) (l : List UInt8) (w : World) (h : RdB w w.heap.size A n l) (hn : n ≤ 1048576) :
    Calls Try.prog 22 #[.slice A n c] w fun e w' => ∃ A' n' c' l', Hid (l' = l) ∧ e = .returned (.slice A' n' c') ∧ OwB w' w.heap.size A' n' c' l' ∧ Below w.heap.size w w' := by
  cases A with
  | none =>
    have hl : l = [] := by
      rcases Nat.eq_zero_or_pos n with h0 | h0
      · exact List.eq_nil_of_length_eq_zero (by rw [h.len]; exact h0)
      · obtain ⟨ad, e, _⟩ := h.2 h0; cases e
    subst hl
    obtain rfl : n = 0 := by have := h.len; simpa using this.symm
    have hnil := Lib.run_eql_slice_nil (P := Try.prog)
    go_enter Try.func22, Try.ntmps22
    go_wp2
    go_ret
    exact ⟨none, 0, 0, [], rfl, rfl, OwB.nil _ _, Below.refl _ _⟩
  | some ad =>
    have hnil := Lib.run_eql_slice_nil (P := Try.prog)
    have H := Lib.hid h
    clear h
    go_enter Try.func22, Try.ntmps22
    go_wp2_with (at_builtin; go_must (refine wpList_appendB bytesElem rfl (.tmp 5) (.tmp 6) 22 rfl w.heap.size _ 0 0 [] rfl (own_empty w _ (Nat.le_refl _)) _ rfl n l ((H.out.alloc (Nat.le_refl _) _).src _ _ Try.underlying22) (by omega) (by simp) ?_); intro A' n' c' l' w' hl' hn' hown hb hg)
    go_ret
    exact ⟨A', n', c', l', hl', rfl, hown, ((Below.refl _ _).alloc (Nat.le_refl _) _).trans hb⟩

/-- What writing answers: the bytes, and the error. -/
def wrB (l : List UInt8) (off : Nat) (d : List UInt8) : List UInt8 := if big off d.length then [] else wrl l off d
def wrE (off : Nat) (d : List UInt8) : Int := if big off d.length then 15 else 0

theorem write_any (A : Option Addr) (n c : Nat) (l : List UInt8) (off : Nat) (A2 : Option Addr) (m c2 : Nat) (d : List UInt8) (w : World) (h : RdB w w.heap.size A n l) (hn : n ≤ 4096) (h2 : RdB w w.heap.size A2 m d) (hm : m ≤ 4096) (ho : off ≤ 9223372036854775807) :
    Calls Try.prog 13 #[.slice A n c, .int .i64 off, .slice A2 m c2] w fun e w' => ∃ A' n' c' l' E, Hid (l' = wrB l off d) ∧ Hid (E = wrE off d) ∧ e = .returned (.tuple #[.slice A' n' c', .int .i64 E]) ∧ OwB w' w.heap.size A' n' c' l' ∧ Below w.heap.size w w' := by
  have hdl := h2.len
  have hll := h.len
  by_cases hm0 : m = 0
  · obtain rfl : d = [] := List.eq_nil_of_length_eq_zero (by omega)
    subst hm0
    have hw1 : wrB l off [] = l := by unfold wrB big; simp [wrl_nil]
    have hw2 : wrE off [] = 0 := by unfold wrE big; simp
    rw [hw1, hw2]
    have H := Lib.hid h
    clear h h2 hdl hll hw1 hw2
    go_enter Try.func13, Try.ntmps13
    go_wp2_with fail
    refine (clone_any A n c l _ H.out (by omega)).mono ?_
    rintro e w' ⟨A', n', c', l', hl', rfl, hown, hb⟩
    go_wp2
    go_ret2
    exact ⟨A', n', c', l', 0, hl', rfl, rfl, hown, hb⟩
  · have hmb : ((m : Int) == 0) = false := beq_eq_false_iff_ne.2 (by omega)
    by_cases hbig : big off m = true
    · have hw1 : wrB l off d = [] := by unfold wrB; rw [hdl, if_pos hbig]
      have hw2 : wrE off d = 15 := by unfold wrE; rw [hdl, if_pos hbig]
      rw [hw1, hw2]
      clear h h2 hdl hll hw1 hw2
      go_enter Try.func13, Try.ntmps13
      go_wp2_with fail
      refine (tooBig_any off m _ ho (by omega)).mono ?_
      rintro e w' ⟨rfl, rfl⟩
      go_wp2
      go_ret2
      exact ⟨none, 0, 0, [], 15, rfl, rfl, rfl, OwB.nil _ _, Below.refl _ _⟩
    · have hbig' : big off m = false := by simpa using hbig
      have hw1 : wrB l off d = wrl l off d := by unfold wrB; rw [hdl, if_neg hbig]
      have hw2 : wrE off d = 0 := by unfold wrE; rw [hdl, if_neg hbig]
      have hle : off + m ≤ 2048 := by
        unfold big at hbig'
        simp at hbig'
        omega
      rw [hw1, hw2]
      clear hw1 hw2 hbig
      obtain ⟨sz, hsz⟩ : ∃ sz : Nat, sz = max n (off + m) := ⟨_, rfl⟩
      have hszb : sz ≤ 4096 ∧ n ≤ sz ∧ off + m ≤ sz := by omega
      have hmax : (if (n : Int) < (off : Int) + m then (off : Int) + m else (n : Int)) = sz := by split <;> omega
      have H := Lib.hid h
      have H2 := Lib.hid h2
      have HS := Lib.hid hsz
      have HD := Lib.hid hdl
      have HL := Lib.hid hll
      clear h h2 hsz hdl hll
      go_enter Try.func13, Try.ntmps13
      go_wp2_with fail
      refine (tooBig_any off m _ ho (by omega)).mono ?_
      rintro e w' ⟨rfl, rfl⟩
      go_wp2_with fail
      refine (stretch_any A n c l sz _ H.out (by omega) (by omega)).mono ?_
      rintro e w1 ⟨A1, n1, c1, l1, hl1, rfl, hown1, hb1⟩
      obtain rfl : sz = n1 := by
        rw [← hown1.len, hl1.out, List.length_append, List.length_take, List.length_replicate, HL.out]; omega
      obtain ⟨g, rfl, hg1, hg2⟩ := hown1.blk (by omega)
      have hcc := hown1.cap
      have hne : ¬ c1 = off := by omega
      have hoff : (off : Int) ≤ sz := by omega
      unfold maxLen at hcc
      go_wp2_with (first
        | (with_reducible refine wpList_copy_sliceB bytesElem rfl (.tmp 31) (.tmp 32) 22 rfl w.heap.size g sz c1 off (sz - off) (c1 - off) l1 hown1 rfl (by omega) A2 m c2 w.heap.size rfl d (H2.out.below hb1) ?_; intro l2 w2 hl2 hown2 hb2 hg2))
      go_ret2
      refine ⟨_, _, _, l2, 0, ?_, rfl, rfl, hown2, hb1.trans hb2⟩
      refine wrl_of_stretch l d l1 l2 off ?_ ?_ (sz - off) (by rw [HD.out]; omega) hl2.out
      · intro e; have := HD.out; rw [e] at this; simp at this; omega
      · rw [hl1.out, HD.out, HL.out, ← HS.out]

def rzB (l : List UInt8) (size : Nat) : List UInt8 := if 2048 < size then [] else l.take size ++ List.replicate (size - l.length) 0
def rzE (size : Nat) : Int := if 2048 < size then 15 else 0

theorem resize_any (A : Option Addr) (n c : Nat) (l : List UInt8) (size : Nat) (w : World) (h : RdB w w.heap.size A n l) (hn : n ≤ 4096) (hs : size ≤ 9223372036854775807) :
    Calls Try.prog 16 #[.slice A n c, .int .i64 size] w fun e w' => ∃ A' n' c' l' E, Hid (l' = rzB l size) ∧ Hid (E = rzE size) ∧ e = .returned (.tuple #[.slice A' n' c', .int .i64 E]) ∧ OwB w' w.heap.size A' n' c' l' ∧ Below w.heap.size w w' := by
  have hll := h.len
  by_cases hb : 2048 < size
  · have hw1 : rzB l size = [] := by unfold rzB; rw [if_pos hb]
    have hw2 : rzE size = 15 := by unfold rzE; rw [if_pos hb]
    rw [hw1, hw2]
    clear h hll hw1 hw2
    go_enter Try.func16, Try.ntmps16
    go_wp2
    go_ret2
    exact ⟨none, 0, 0, [], 15, rfl, rfl, rfl, OwB.nil _ _, Below.refl _ _⟩
  · have hw1 : rzB l size = l.take size ++ List.replicate (size - n) 0 := by unfold rzB; rw [if_neg hb, hll]
    have hw2 : rzE size = 0 := by unfold rzE; rw [if_neg hb]
    rw [hw1, hw2]
    have H := Lib.hid h
    clear h hll hw1 hw2
    go_enter Try.func16, Try.ntmps16
    go_wp2_with fail
    refine (stretch_any A n c l size _ H.out (by omega) (by omega)).mono ?_
    rintro e w1 ⟨A1, n1, c1, l1, hl1, rfl, hown1, hb1⟩
    go_wp2
    go_ret2
    exact ⟨A1, n1, c1, l1, 0, hl1, rfl, rfl, hown1, hb1⟩

def rdB (l : List UInt8) (off n : Nat) : List UInt8 := (l.drop off).take n
def rdEnd (l : List UInt8) (off n : Nat) : Bool := decide (l.length ≤ off + n)

theorem read_any (A : Option Addr) (n c : Nat) (l : List UInt8) (off k : Nat) (w : World) (h : RdB w w.heap.size A n l) (hn : n ≤ 4096) (hc : n ≤ c) (hcm : c ≤ maxLen) (ho : off ≤ 9223372036854775807) (hk : k ≤ 9223372036854775807) :
    Calls Try.prog 18 #[.slice A n c, .int .i64 off, .int .i64 k] w fun e w' => ∃ A' n' c' l' E, Hid (l' = rdB l off k) ∧ Hid (E = rdEnd l off k) ∧ e = .returned (.tuple #[.slice A' n' c', .bool E]) ∧ OwB w' w.heap.size A' n' c' l' ∧ Below w.heap.size w w' := by
  have hll := h.len
  unfold maxLen at hcm
  by_cases ho2 : n ≤ off
  · have hw1 : rdB l off k = [] := by unfold rdB; rw [List.drop_of_length_le (by omega)]; simp
    have hw2 : rdEnd l off k = true := by unfold rdEnd; simp; omega
    rw [hw1, hw2]
    clear h hll hw1 hw2
    go_enter Try.func18, Try.ntmps18
    go_wp2
    go_ret2
    exact ⟨none, 0, 0, [], true, rfl, rfl, rfl, OwB.nil _ _, Below.refl _ _⟩
  · have hcut := h.cut (k := off) (c := c) (by omega) hc
    rw [if_neg (by omega)] at hcut
    obtain ⟨b, o, x, rfl, hb1, _⟩ := h.at_ (k := 0) (by omega)
    simp only [Option.map_some, add_plain] at hcut
    have hne : ¬ c = off := by omega
    by_cases hk2 : k < n - off
    · have hf := hcut.first (k := k) (by omega)
      have hw2 : rdEnd l off k = false := by unfold rdEnd; simp; omega
      rw [hw2]
      have HF := Lib.hid hf
      have hd1 : ((k : Int) == ((n - off : Nat) : Int)) = false := beq_eq_false_iff_ne.2 (by omega)
      have hmin : (if n - off < k then ((n - off : Nat) : Int) else (k : Int)) = k := by rw [if_neg (by omega)]
      clear h hll hcut hf hw2
      go_enter Try.func18, Try.ntmps18
      go_wp2_with fail
      refine (clone_any _ _ _ _ _ HF.out (by omega)).mono ?_
      rintro e w1 ⟨A1, n1, c1, l1, hl1, rfl, hown1, hb1⟩
      go_wp2
      go_ret2
      exact ⟨A1, n1, c1, l1, false, hl1, rfl, rfl, hown1, hb1⟩
    · have hw1 : rdB l off k = l.drop off := by unfold rdB; rw [List.take_of_length_le (by rw [List.length_drop]; omega)]
      have hw2 : rdEnd l off k = true := by unfold rdEnd; simp; omega
      rw [hw1, hw2]
      have HF := Lib.hid hcut
      have hmin : (if n - off < k then ((n - off : Nat) : Int) else (k : Int)) = ((n - off : Nat) : Int) := by split <;> omega
      clear h hll hcut hw1 hw2
      go_enter Try.func18, Try.ntmps18
      go_wp2_with fail
      refine (clone_any _ _ _ _ _ HF.out (by omega)).mono ?_
      rintro e w1 ⟨A1, n1, c1, l1, hl1, rfl, hown1, hb1⟩
      go_wp2
      go_ret2
      exact ⟨A1, n1, c1, l1, true, hl1, rfl, by simp, hown1, hb1⟩

def fitsE (size off n room : Nat) : Int := if big off n then 15 else if 0 < n ∧ size + room < off + n then 14 else 0

theorem fits_any (size off n room : Nat) (w : World) (h0 : size ≤ 9223372036854775807) (h1 : off ≤ 9223372036854775807) (h2 : n ≤ 9223372036854775807) (h3 : room ≤ 9223372036854775807) :
    Calls Try.prog 20 #[.int .i64 size, .int .i64 off, .int .i64 n, .int .i64 room] w fun e w' => ∃ E, Hid (E = fitsE size off n room) ∧ e = .returned (.int .i64 E) ∧ w = w' := by
  by_cases hn : n < 1
  · have e : fitsE size off n room = 0 := by unfold fitsE big; rw [if_neg (by simp; omega), if_neg (by omega)]
    rw [e]; clear e
    go_enter Try.func20, Try.ntmps20
    go_wp2
    go_ret
    exact ⟨0, rfl, rfl, rfl⟩
  · by_cases hb : big off n = true
    · have e : fitsE size off n room = 15 := by unfold fitsE; rw [if_pos hb]
      rw [e]; clear e
      go_enter Try.func20, Try.ntmps20
      go_wp2_with fail
      refine (tooBig_any off n _ h1 h2).mono ?_
      rintro e w' ⟨rfl, rfl⟩
      go_wp2
      go_ret
      exact ⟨15, rfl, rfl, rfl⟩
    · have hb' : big off n = false := by simpa using hb
      have hle : off + n ≤ 2048 := by unfold big at hb'; simp at hb'; omega
      by_cases hr : size + room < off + n
      · have e : fitsE size off n room = 14 := by unfold fitsE; rw [if_neg hb, if_pos (by omega)]
        have ht : (room : Int) < (off : Int) + n - size := by omega
        rw [e]; clear e hb
        go_enter Try.func20, Try.ntmps20
        go_wp2_with fail
        refine (tooBig_any off n _ h1 h2).mono ?_
        rintro e w' ⟨rfl, rfl⟩
        go_wp2
        go_ret
        exact ⟨14, rfl, rfl, rfl⟩
      · have e : fitsE size off n room = 0 := by unfold fitsE; rw [if_neg hb, if_neg (by omega)]
        have ht : ¬ (room : Int) < (off : Int) + n - size := by omega
        rw [e]; clear e hb
        go_enter Try.func20, Try.ntmps20
        go_wp2_with fail
        refine (tooBig_any off n _ h1 h2).mono ?_
        rintro e w' ⟨rfl, rfl⟩
        go_wp2
        go_ret
        exact ⟨0, rfl, rfl, rfl⟩

theorem refFits_any (size off n room : Nat) (w : World) (h0 : size ≤ 9223372036854775807) (h1 : off ≤ 9223372036854775807) (h2 : n ≤ 9223372036854775807) (h3 : room ≤ 9223372036854775807) :
    Calls Try.prog 21 #[.int .i64 size, .int .i64 off, .int .i64 n, .int .i64 room] w fun e w' => ∃ E, Hid (E = fitsE size off n room) ∧ e = .returned (.int .i64 E) ∧ w = w' := by
  by_cases hb : big off n = true
  · have e : fitsE size off n room = 15 := by unfold fitsE; rw [if_pos hb]
    rw [e]; clear e
    go_enter Try.func21, Try.ntmps21
    go_wp2_with fail
    refine (refTooBig_any off n _ h1 h2).mono ?_
    rintro e w' ⟨rfl, rfl⟩
    go_wp2
    go_ret
    exact ⟨15, rfl, rfl, rfl⟩
  · have hb' : big off n = false := by simpa using hb
    by_cases hn : n < 1
    · have e : fitsE size off n room = 0 := by unfold fitsE; rw [if_neg hb, if_neg (by omega)]
      have hd : decide ((0 : Int) < n) = false := by simp; omega
      rw [e]; clear e hb
      go_enter Try.func21, Try.ntmps21
      go_wp2_with fail
      refine (refTooBig_any off n _ h1 h2).mono ?_
      rintro e w' ⟨rfl, rfl⟩
      go_wp2
      go_ret
      exact ⟨0, rfl, rfl, rfl⟩
    · have hle : off + n ≤ 2048 := by unfold big at hb'; simp at hb'; omega
      have hd : decide ((0 : Int) < n) = true := by simp; omega
      by_cases hr : size + room < off + n
      · have e : fitsE size off n room = 14 := by unfold fitsE; rw [if_neg hb, if_pos (by omega)]
        have ht : (room : Int) < (off : Int) + n - size := by omega
        have hd2 : decide ((size : Int) < (off : Int) + n) = true := by simp; omega
        rw [e]; clear e hb
        go_enter Try.func21, Try.ntmps21
        go_wp2_with fail
        refine (refTooBig_any off n _ h1 h2).mono ?_
        rintro e w' ⟨rfl, rfl⟩
        go_wp2
        go_ret
        exact ⟨14, rfl, rfl, rfl⟩
      · have e : fitsE size off n room = 0 := by unfold fitsE; rw [if_neg hb, if_neg (by omega)]
        rw [e]; clear e hb
        by_cases hs : size < off + n
        · have hd2 : decide ((size : Int) < (off : Int) + n) = true := by simp; omega
          have ht : decide ((room : Int) < (off : Int) + n - size) = false := by simp; omega
          go_enter Try.func21, Try.ntmps21
          go_wp2_with fail
          refine (refTooBig_any off n _ h1 h2).mono ?_
          rintro e w' ⟨rfl, rfl⟩
          go_wp2
          go_ret
          exact ⟨0, rfl, rfl, rfl⟩
        · have hd2 : decide ((size : Int) < (off : Int) + n) = false := by simp; omega
          go_enter Try.func21, Try.ntmps21
          go_wp2_with fail
          refine (refTooBig_any off n _ h1 h2).mono ?_
          rintro e w' ⟨rfl, rfl⟩
          go_wp2
          go_ret
          exact ⟨0, rfl, rfl, rfl⟩

end Go.Proofs.Ytopdogadednclaa
