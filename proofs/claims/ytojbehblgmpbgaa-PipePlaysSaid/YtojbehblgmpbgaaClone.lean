/-
  Clones of bytes and of numbers; the least and the greatest of some numbers.
-/
import Derived.Test.YtojbehblgmpbgaaVals
import Derived.Test.YtojbehblgmpbgaaFew
import Derived.Test.YtojbehblgmpbgaaPlan3
namespace Go.Proofs.Ytojbehblgmpbgaa
open Go.RowKit
set_option linter.unusedVariables false

theorem intsElem : Elem Try.prog 36 3 (.int .i64 0) 1 8 := elem_of Try.underlying36 (by kernel_rfl) rfl (by omega)
/-- The cells of numbers. -/
def iv (zs : List Int) : List Value := zs.map (Value.int .i64)
theorem iv_at (zs : List Int) (k : Nat) : (iv zs)[k]? = (zs[k]?).map (Value.int .i64) := by simp [iv]
theorem iv_length (zs : List Int) : (iv zs).length = zs.length := by simp [iv]
theorem iv_append (a b : List Int) : iv (a ++ b) = iv a ++ iv b := by simp [iv]
theorem iv_one (zs : List Int) : ∀ v ∈ iv zs, v.oneCell' = true := by
  intro v hv
  simp only [iv, List.mem_map] at hv
  obtain ⟨z, _, rfl⟩ := hv
  rfl

/-- A clone of bytes. -/
def CloneB (w : World) (l : List UInt8) (e : Ending) (w' : World) : Prop := ∃ A' n' c' l', Hid (l' = l) ∧ e = .returned (.slice A' n' c') ∧ OwB w' w.heap.size A' n' c' l' ∧ Below w.heap.size w w'
/-- A clone of numbers. -/
def CloneI (w : World) (l : List Value) (e : Ending) (w' : World) : Prop := ∃ A' n' c' l', Hid (l' = l) ∧ e = .returned (.slice A' n' c') ∧ OwV w' w.heap.size 3 A' n' c' l' ∧ Below w.heap.size w w'

theorem OwV.empty (w : World) (base : Nat) (e : TypeId) (hb : base ≤ w.heap.size) : OwV (w.alloc (.cells #[] e)) base e (some ⟨w.heap.size, 0, none⟩) 0 0 [] :=
  ⟨by simp, .inr ⟨w.heap.size, 0, #[], (0, 0), rfl, hb, heap_alloc_new w _, .inl (Nat.le_refl _), Nat.le_refl _, by unfold maxLen; omega, by simp, by simp⟩⟩
theorem OwB.empty' (w : World) (base : Nat) (hb : base ≤ w.heap.size) : OwB (w.alloc (.cells #[] 5)) base (some ⟨w.heap.size, 0, none⟩) 0 0 [] :=
  ⟨by simp [bv], .inr ⟨w.heap.size, 0, #[], (0, 0), rfl, hb, heap_alloc_new w _, .inl (Nat.le_refl _), Nat.le_refl _, by unfold maxLen; omega, by simp, by simp [bv]⟩⟩

theorem cloneB_any (A : Option Addr) (n c : Nat) (l : List UInt8) (w : World) (h : RdB w w.heap.size A n l) (hn : n ≤ 1073741824) :
    Calls Try.prog 27 #[.slice A n c] w (CloneB w l) := by
  have hq := fun W => Lib.run_eql_slice_nil (P := Try.prog) W 22 5 A n c 0 0 Try.underlying22
  cases A with
  | none =>
    have hl : l = [] := by
      rcases Nat.eq_zero_or_pos n with h0 | h0
      · exact List.eq_nil_of_length_eq_zero (by rw [h.len]; exact h0)
      · obtain ⟨ad, e, _⟩ := h.2 h0; cases e
    subst hl
    go_enter Try.func27, Try.ntmps27
    go_wp2
    go_ret
    exact ⟨none, 0, 0, [], rfl, rfl, OwB.nil _ _, Below.refl _ _⟩
  | some ad =>
    have H' := Lib.hid ((h.alloc (Nat.le_refl _) (.cells #[] 5)).src (P := Try.prog) (c := c) 22 5 Try.underlying22)
    go_enter Try.func27, Try.ntmps27
    go_wp2_with (at_builtin; go_must (refine wpList_appendB bytesElem rfl (.tmp 5) (.tmp 6) 22 rfl w.heap.size _ 0 0 [] rfl (OwB.empty' w _ (Nat.le_refl _)) _ rfl n l H'.out (by omega) (by simp) ?_); intro A2 n2 c2 l2 w2 hl2 hn2 hown2 hb2 hg2)
    go_ret
    exact ⟨A2, n2, c2, l2, by rw [hl2.out]; rfl, rfl, hown2, ((Below.refl _ _).alloc (Nat.le_refl _) _).trans hb2⟩

theorem cloneI_any (A : Option Addr) (n c : Nat) (l : List Value) (w : World) (h : RdV w w.heap.size A n l) (h1 : ∀ v ∈ l, v.oneCell' = true) (hn : n ≤ 1048576) :
    Calls Try.prog 24 #[.slice A n c] w (CloneI w l) := by
  have hq := fun W => Lib.run_eql_slice_nil (P := Try.prog) W 36 3 A n c 0 0 Try.underlying36
  cases A with
  | none =>
    have hl : l = [] := by
      rcases Nat.eq_zero_or_pos n with h0 | h0
      · exact List.eq_nil_of_length_eq_zero (by rw [h.len]; exact h0)
      · obtain ⟨ad, e, _⟩ := h.2 h0; cases e
    subst hl
    go_enter Try.func24, Try.ntmps24
    go_wp2
    go_ret
    exact ⟨none, 0, 0, [], rfl, rfl, OwV.nil _ _ _, Below.refl _ _⟩
  | some ad =>
    have H' := Lib.hid ((h.alloc (Nat.le_refl _) (.cells #[] 3)).src (P := Try.prog) (c := c) 36 3 Try.underlying36 h1)
    go_enter Try.func24, Try.ntmps24
    go_wp2_with (at_builtin; go_must (refine wpList_appendV intsElem rfl (.tmp 5) (.tmp 6) 36 rfl w.heap.size _ 0 0 [] rfl (OwV.empty w _ _ (Nat.le_refl _)) _ rfl n l H'.out (by omega) (by omega) (by simp) ?_); intro A2 n2 c2 l2 w2 hl2 hn2 hown2 hb2 hg2)
    go_ret
    exact ⟨A2, n2, c2, l2, by rw [hl2.out]; rfl, rfl, hown2, ((Below.refl _ _).alloc (Nat.le_refl _) _).trans hb2⟩

/-- A least one. -/
def LeastOf (zs : List Int) (m : Int) : Prop := m ∈ zs ∧ ∀ z ∈ zs, m ≤ z
def GreatestOf (zs : List Int) (m : Int) : Prop := m ∈ zs ∧ ∀ z ∈ zs, z ≤ m
def MinRel (n : Nat) (zs : List Int) (w : World) (m i : Value) (wr : World) : Prop := ∃ (k : Nat) (x : Int), 1 ≤ k ∧ k ≤ n ∧ i = .int .i64 k ∧ m = .int .i64 x ∧ wr = w ∧ x ∈ zs ∧ ∀ z ∈ zs.take k, x ≤ z
def MaxRel (n : Nat) (zs : List Int) (w : World) (m i : Value) (wr : World) : Prop := ∃ (k : Nat) (x : Int), 1 ≤ k ∧ k ≤ n ∧ i = .int .i64 k ∧ m = .int .i64 x ∧ wr = w ∧ x ∈ zs ∧ ∀ z ∈ zs.take k, z ≤ x
theorem take_snoc {zs : List Int} {k : Nat} {z : Int} (h : zs[k]? = some z) : zs.take (k + 1) = zs.take k ++ [z] := by
  rw [List.take_add_one, h]; rfl
theorem take_one_of {zs : List Int} {z : Int} (h : zs[0]? = some z) : zs.take 1 = [z] := by
  cases zs with
  | nil => simp at h
  | cons a t => simp at h; subst h; simp

theorem min_any (A : Option Addr) (n c : Nat) (zs : List Int) (w : World) (h : RdV w w.heap.size A n (iv zs)) (hn : 1 ≤ n) (hn2 : n ≤ 1048576) :
    Calls Try.prog 25 #[.slice A n c] w fun e w' => ∃ m, LeastOf zs m ∧ e = .returned (.int .i64 m) ∧ w = w' := by
  have hlen : zs.length = n := by rw [← iv_length]; exact h.len
  obtain ⟨b, off, u, rfl, hb, hu, hc0⟩ := h.at_ (k := 0) (by omega)
  rw [iv_at] at hu
  obtain ⟨z0, hz0, rfl⟩ : ∃ z, zs[0]? = some z ∧ u = .int .i64 z := by
    cases hh : zs[0]? with
    | none => rw [hh] at hu; simp at hu
    | some z => rw [hh] at hu; simp at hu; exact ⟨z, rfl, hu.symm⟩
  have hcs : ∀ k, k < n → ∃ z, zs[k]? = some z ∧ w.cell? ⟨b, off + k, none⟩ = some (.int .i64 z) := by
    intro k hk
    obtain ⟨b', off', u, e, _, hu, hc⟩ := h.at_ hk
    injection e with e
    injection e with e1 e2
    subst e1; subst e2
    rw [iv_at] at hu
    cases hh : zs[k]? with
    | none => rw [hh] at hu; simp at hu
    | some z => rw [hh] at hu; simp at hu; subst hu; exact ⟨z, rfl, hc⟩
  have HC := Lib.hid hcs
  have HZ := Lib.hid hz0
  have HL := Lib.hid hlen
  clear hcs hz0 hlen h hu
  simp only [Nat.add_zero] at hc0
  have i0 : (1 : Int) ≤ n := by omega
  have i1 : ¬ (n : Int) < 1 := by omega
  have i2 : (0 : Int) < n := by omega
  go_enter Try.func25, Try.ntmps25
  go_wp2
  go_loopw [3, 4] (fun m i wr => MinRel n zs w m i wr) (fun _ i _ => n - (intOf i).toNat)
  case atStart => exact ⟨1, z0, by omega, by omega, rfl, rfl, rfl, List.mem_of_getElem? HZ.out, by rw [take_one_of HZ.out]; simp⟩
  case round =>
    obtain ⟨k, x, hk1, hk2, rfl, rfl, rfl, hx, hall⟩ := hrel
    have HX := Lib.hid hx
    have HA := Lib.hid hall
    clear hx hall
    by_cases hlt : k < n
    · obtain ⟨z, hz, kc⟩ := HC.out k hlt
      have HZk := Lib.hid hz
      clear hz
      have j0 : (0 : Int) ≤ k := by omega
      have j1 : (k : Int) < n := by omega
      go_wp2
      go_roundw
      case rel =>
        refine ⟨k + 1, _, by omega, by omega, by go_num, rfl, rfl, ?_, ?_⟩
        · split
          · first | exact HX.out | exact List.mem_of_getElem? HZk.out
          · first | exact List.mem_of_getElem? HZk.out | exact HX.out
        · rw [take_snoc HZk.out]
          intro y hy
          rcases List.mem_append.1 hy with hy | hy
          · have := HA.out y hy; split <;> omega
          · simp at hy; subst hy; split <;> omega
      case measure => simp [intOf]; omega
    · obtain rfl : k = n := by omega
      go_wp2
      go_ret
      exact ⟨x, ⟨HX.out, fun z hz => HA.out z (by rw [List.take_of_length_le (by rw [HL.out]; omega)]; exact hz)⟩, rfl, rfl⟩

theorem max_any (A : Option Addr) (n c : Nat) (zs : List Int) (w : World) (h : RdV w w.heap.size A n (iv zs)) (hn : 1 ≤ n) (hn2 : n ≤ 1048576) :
    Calls Try.prog 26 #[.slice A n c] w fun e w' => ∃ m, GreatestOf zs m ∧ e = .returned (.int .i64 m) ∧ w = w' := by
  have hlen : zs.length = n := by rw [← iv_length]; exact h.len
  obtain ⟨b, off, u, rfl, hb, hu, hc0⟩ := h.at_ (k := 0) (by omega)
  rw [iv_at] at hu
  obtain ⟨z0, hz0, rfl⟩ : ∃ z, zs[0]? = some z ∧ u = .int .i64 z := by
    cases hh : zs[0]? with
    | none => rw [hh] at hu; simp at hu
    | some z => rw [hh] at hu; simp at hu; exact ⟨z, rfl, hu.symm⟩
  have hcs : ∀ k, k < n → ∃ z, zs[k]? = some z ∧ w.cell? ⟨b, off + k, none⟩ = some (.int .i64 z) := by
    intro k hk
    obtain ⟨b', off', u, e, _, hu, hc⟩ := h.at_ hk
    injection e with e
    injection e with e1 e2
    subst e1; subst e2
    rw [iv_at] at hu
    cases hh : zs[k]? with
    | none => rw [hh] at hu; simp at hu
    | some z => rw [hh] at hu; simp at hu; subst hu; exact ⟨z, rfl, hc⟩
  have HC := Lib.hid hcs
  have HZ := Lib.hid hz0
  have HL := Lib.hid hlen
  clear hcs hz0 hlen h hu
  simp only [Nat.add_zero] at hc0
  have i0 : (1 : Int) ≤ n := by omega
  have i1 : ¬ (n : Int) < 1 := by omega
  have i2 : (0 : Int) < n := by omega
  go_enter Try.func26, Try.ntmps26
  go_wp2
  go_loopw [3, 4] (fun m i wr => MaxRel n zs w m i wr) (fun _ i _ => n - (intOf i).toNat)
  case atStart => exact ⟨1, z0, by omega, by omega, rfl, rfl, rfl, List.mem_of_getElem? HZ.out, by rw [take_one_of HZ.out]; simp⟩
  case round =>
    obtain ⟨k, x, hk1, hk2, rfl, rfl, rfl, hx, hall⟩ := hrel
    have HX := Lib.hid hx
    have HA := Lib.hid hall
    clear hx hall
    by_cases hlt : k < n
    · obtain ⟨z, hz, kc⟩ := HC.out k hlt
      have HZk := Lib.hid hz
      clear hz
      have j0 : (0 : Int) ≤ k := by omega
      have j1 : (k : Int) < n := by omega
      go_wp2
      go_roundw
      case rel =>
        refine ⟨k + 1, _, by omega, by omega, by go_num, rfl, rfl, ?_, ?_⟩
        · split
          · first | exact HX.out | exact List.mem_of_getElem? HZk.out
          · first | exact List.mem_of_getElem? HZk.out | exact HX.out
        · rw [take_snoc HZk.out]
          intro y hy
          rcases List.mem_append.1 hy with hy | hy
          · have := HA.out y hy; split <;> omega
          · simp at hy; subst hy; split <;> omega
      case measure => simp [intOf]; omega
    · obtain rfl : k = n := by omega
      go_wp2
      go_ret
      exact ⟨x, ⟨HX.out, fun z hz => HA.out z (by rw [List.take_of_length_le (by rw [HL.out]; omega)]; exact hz)⟩, rfl, rfl⟩
end Go.Proofs.Ytojbehblgmpbgaa
