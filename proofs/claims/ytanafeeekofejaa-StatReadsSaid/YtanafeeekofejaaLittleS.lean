/-
  Layer 2: the reader's texts and data, its end; bytes.Clone; Read.
-/
import Derived.Test.YtanafeeekofejaaLittleR
namespace Go.Proofs.Ytanafeeekofejaa
open Go.RowKit
set_option linter.unusedVariables false

theorem OwB.empty (w : World) (base : Nat) (hb : base ≤ w.heap.size) : OwB (w.alloc (.cells #[] 5)) base (some ⟨w.heap.size, 0, none⟩) 0 0 [] :=
  ⟨by simp [bv], .inr ⟨w.heap.size, 0, #[], (0, 0), rfl, hb, heap_alloc_new w _, .inl (Nat.le_refl _), Nat.le_refl _, by unfold maxLen; omega, by simp, by simp [bv]⟩⟩

theorem clone_any (A : Option Addr) (n c : Nat) (l : List UInt8) (w : World) (h : RdB w w.heap.size A n l) (hn : n ≤ 1073741824) :
    Calls Try.prog 51 #[.slice A n c] w (LayPost w l) := by
  have hq := fun W => Lib.run_eql_slice_nil (P := Try.prog) W 46 5 A n c 0 0 Try.underlying46
  cases A with
  | none =>
    have hl : l = [] := by
      rcases Nat.eq_zero_or_pos n with h0 | h0
      · exact List.eq_nil_of_length_eq_zero (by rw [h.len]; exact h0)
      · obtain ⟨ad, e, _⟩ := h.2 h0; cases e
    subst hl
    go_enter Try.func51, Try.ntmps51
    go_wp2
    go_ret
    exact ⟨none, 0, 0, [], rfl, rfl, OwB.nil _ _, Below.refl _ _⟩
  | some ad =>
    have H' := Lib.hid ((h.alloc (Nat.le_refl _) (.cells #[] 5)).src (P := Try.prog) (c := c) 46 5 Try.underlying46)
    go_enter Try.func51, Try.ntmps51
    go_wp2_with (at_builtin; go_must (refine wpList_appendB bytesElem rfl (.tmp 5) (.tmp 6) 46 rfl w.heap.size _ 0 0 [] rfl (OwB.empty w _ (Nat.le_refl _)) _ rfl n l H'.out (by omega) (by simp) ?_); intro A2 n2 c2 l2 w2 hl2 hn2 hown2 hb2 hg2)
    go_ret
    exact ⟨A2, n2, c2, l2, by rw [hl2.out]; rfl, rfl, hown2, ((Below.refl _ _).alloc (Nat.le_refl _) _).trans hb2⟩

def ReadPost (w : World) (l : List UInt8) (x : Ending) (w' : World) : Prop := ∃ g, x = .returned (.pointer (some ⟨g, 0, none⟩)) ∧ w.heap.size ≤ g ∧ Rdr w' g l 0 ∧ Below w.heap.size w w'

theorem read_any (A : Option Addr) (n c : Nat) (l : List UInt8) (w : World) (h : RdB w w.heap.size A n l) (hn : n ≤ 1073741824) :
    Calls Try.prog 40 #[.slice A n c] w (ReadPost w l) := by
  go_enter Try.func40, Try.ntmps40
  go_wp2_with fail
  refine (clone_any A n c l _ h hn).mono ?_
  rintro x w1 ⟨A1, n1, c1, l1, hl1, rfl, hown1, hb1⟩
  obtain rfl := hl1.out
  have hcc := hown1.cap
  go_wp2
  go_ret
  exact ⟨w1.heap.size, rfl, hb1.size, ⟨A1, n1, c1, Blk.new _ _ _, hown1.rd.alloc (Nat.le_refl _) _, hcc.1, hcc.2, fun h => absurd rfl h⟩, hb1.alloc hb1.size _⟩

def StrPost (w : World) (g : Nat) (b l : List UInt8) (e : Int) (x : Ending) (w' : World) : Prop :=
  ∃ l1 l2 e2, Hid (l1 = b) ∧ Hid (l2 = l) ∧ Hid (e2 = e) ∧ x = .returned (.string (st l1)) ∧ Rdr w' g l2 e2 ∧ Keeps (Is g) w w'

theorem rText_any (g : Nat) (l : List UInt8) (e : Int) (w : World) (h : Rdr w g l e) :
    Calls Try.prog 42 #[.pointer (some ⟨g, 0, none⟩)] w (StrPost w g (txB l e) (txL l e) (txE l e)) := by
  go_enter Try.func42, Try.ntmps42
  go_wp2_with fail
  refine (rU16_any g l e _ h).mono ?_
  rintro x w1 ⟨v, l2, e2, hv, hl2, he2, rfl, hR, hK⟩
  have hvb : v ≤ 65535 := by
    have h1 := num_lt (nxB l e 2)
    have h2 := Nat.pow_le_pow_right (show 0 < 256 by omega) (nxB_len l e 2)
    rw [hv.out]
    omega
  go_wp2_with fail
  refine (next_any g l2 e2 v _ hR (by omega)).mono ?_
  rintro x w2 ⟨A, m, c, l3, l4, e4, hl3, hl4, he4, rfl, hr, hmc, hcm, hR2, hK2⟩
  have hcv := str_of (c := c) (hr.more (Nat.le_of_lt hR2.lt)) (Below.refl _ _)
  go_wp2
  go_ret
  refine ⟨l3, l4, e4, ?_, ?_, ?_, rfl, hR2, hK.trans hK2⟩
  · show _ = _; rw [hl3.out, hl2.out, he2.out, hv.out]; rfl
  · show _ = _; rw [hl4.out, hl2.out, he2.out, hv.out]; rfl
  · show _ = _; rw [he4.out, hl2.out, he2.out, hv.out]; rfl

def BytesPost (w : World) (g : Nat) (b l : List UInt8) (e : Int) (x : Ending) (w' : World) : Prop :=
  ∃ A m c l1 l2 e2, Hid (l1 = b) ∧ Hid (l2 = l) ∧ Hid (e2 = e) ∧ x = .returned (.slice A m c) ∧ OwB w' w.heap.size A m c l1 ∧ Rdr w' g l2 e2 ∧ Keeps (Is g) w w'

theorem rErrno_any (g : Nat) (l : List UInt8) (e : Int) (w : World) (h : Rdr w g l e) :
    Calls Try.prog 44 #[.pointer (some ⟨g, 0, none⟩)] w fun x w' => x = .returned (.int .i64 e) ∧ w = w' := by
  obtain ⟨A, n, c, hb, hr, hn, hc, hst⟩ := h
  have c1 := hb.cell 1 _ rfl
  clear hb
  go_enter Try.func44, Try.ntmps44
  go_wp2
  go_ret
  exact ⟨rfl, rfl⟩

theorem rEnd_any (g : Nat) (l : List UInt8) (e : Int) (w : World) (h : Rdr w g l e) :
    Calls Try.prog 41 #[.pointer (some ⟨g, 0, none⟩)] w fun x w' => x = .returned (.int .i64 (endE l e)) ∧ w = w' := by
  obtain ⟨A, n, c, hb, hr, hn, hc, hst⟩ := h
  have c0 := hb.cell 0 _ rfl
  have c1 := hb.cell 1 _ rfl
  have hln := hr.len
  generalize hE : endE l e = E
  unfold endE at hE
  clear hb
  unfold maxLen at hc
  by_cases he : e = 0
  · subst he
    by_cases h0 : 0 < n
    · rw [if_pos ⟨rfl, by omega⟩] at hE
      subst hE
      clear hln
      go_enter Try.func41, Try.ntmps41
      go_wp2
      go_ret
      exact ⟨rfl, rfl⟩
    · rw [if_neg (by omega)] at hE
      subst hE
      clear hln
      have hd : decide ((0 : Int) < n) = false := by simp; omega
      have hd2 : decide (0 < n) = false := by simp; omega
      go_enter Try.func41, Try.ntmps41
      go_wp2
      go_ret
      exact ⟨rfl, rfl⟩
  · rw [if_neg (fun h => he h.1)] at hE
    subst hE
    clear hln
    have hd : (e == 0) = false := by simpa using he
    go_enter Try.func41, Try.ntmps41
    go_wp2
    go_ret
    exact ⟨rfl, rfl⟩

end Go.Proofs.Ytanafeeekofejaa
