/-
  tell's writer: bound, number, text.
-/
import Derived.Test.YtoplkglnjgllnaaTellB
import Derived.Test.YtoplkglnjgllnaaLittleB
namespace Go.Proofs.Ytoplkglnjgllnaa
open Go.RowKit
set_option linter.unusedVariables false
set_option linter.unusedSimpArgs false

/-- The writer in block g: its reply's cells xs, the bytes l that are laid, whether all that was laid may be. -/
def Wr (w : World) (g : Nat) (xs : List Value) (l : List UInt8) (ok : Bool) : Prop :=
  ∃ A n c, Blk w g 89 (xs ++ [Value.slice A n c, Value.bool ok]) ∧ OwB w (g + 1) A n c l ∧ xs.length = 18

section
variable {w w' : World} {g : Nat} {xs : List Value} {l : List UInt8} {ok : Bool}
theorem Wr.lt (h : Wr w g xs l ok) : g < w.heap.size := by obtain ⟨_, _, _, h, _⟩ := h; exact h.lt
theorem Wr.up (h : Wr w g xs l ok) (k : Below w.heap.size w w') : Wr w' g xs l ok := by
  obtain ⟨A, n, c, h1, h2, h3⟩ := h
  exact ⟨A, n, c, h1.up k, h2.up k, h3⟩
theorem Wr.drew (h : Wr w g xs l ok) : Wr w.drew g xs l ok := h
theorem Wr.alloc (h : Wr w g xs l ok) (o : Obj) : Wr (w.alloc o) g xs l ok := h.up ((Below.refl _ _).alloc (Nat.le_refl _) _)
theorem wr_at19 {A : Option Addr} {n c : Nat} (hx : xs.length = 18) : (xs ++ [Value.slice A n c, Value.bool ok])[19]? = some (.bool ok) := by
  rw [List.getElem?_append_right (by omega), hx]; rfl
theorem wr_at18 {A : Option Addr} {n c : Nat} (hx : xs.length = 18) : (xs ++ [Value.slice A n c, Value.bool ok])[18]? = some (.slice A n c) := by
  rw [List.getElem?_append_right (by omega), hx]; rfl
theorem wr_at {A : Option Addr} {n c i : Nat} {v : Value} (hx : xs.length = 18) (hv : xs[i]? = some v) : (xs ++ [Value.slice A n c, Value.bool ok])[i]? = some v := by
  have := (List.getElem?_eq_some_iff.1 hv).1
  rw [List.getElem?_append_left this, hv]
theorem wr_set19 {A : Option Addr} {n c : Nat} (hx : xs.length = 18) (b : Bool) : (xs ++ [Value.slice A n c, Value.bool ok]).set 19 (.bool b) = xs ++ [Value.slice A n c, Value.bool b] := by
  rw [List.set_append_right _ _ (by omega), hx]; rfl
theorem wr_set18 {A A' : Option Addr} {n c n' c' : Nat} (hx : xs.length = 18) : (xs ++ [Value.slice A n c, Value.bool ok]).set 18 (.slice A' n' c') = xs ++ [Value.slice A' n' c', .bool ok] := by
  rw [List.set_append_right _ _ (by omega), hx]; rfl
theorem wr_set {A : Option Addr} {n c i : Nat} (hi : i < 18) (hx : xs.length = 18) (v : Value) : (xs ++ [Value.slice A n c, Value.bool ok]).set i v = xs.set i v ++ [Value.slice A n c, Value.bool ok] := by
  rw [List.set_append_left _ _ (by omega)]
theorem not_is {g k : Nat} (h : g + 1 ≤ k) : ¬ Is g k := fun e => by
  have e' : k = g := e
  omega
/-- Whether all may be is noted. -/
theorem Wr.note {A : Option Addr} {n c : Nat} (h : Blk w g 89 (xs ++ [Value.slice A n c, Value.bool ok])) (ho : OwB w (g + 1) A n c l) (hx : xs.length = 18) (b : Bool) : Wr (w.setCell ⟨g, 19, none⟩ (.bool b)) g xs l b :=
  ⟨A, n, c, by rw [← wr_set19 hx b]; exact h.set 19 (.bool b), ho.keeps ((Keeps.refl (Is g) _).setCell (p := ⟨g, 19, none⟩) (.inl rfl) _) fun k hk => not_is hk, hx⟩
/-- New bytes are laid. -/
theorem Wr.laid {A A' : Option Addr} {n c n' c' : Nat} {l' : List UInt8} (h : Blk w g 89 (xs ++ [Value.slice A n c, Value.bool ok])) (ho : OwB w (g + 1) A' n' c' l') (hx : xs.length = 18) : Wr (w.setCell ⟨g, 18, none⟩ (.slice A' n' c')) g xs l' ok :=
  ⟨A', n', c', by rw [← wr_set18 hx]; exact h.set 18 (.slice A' n' c'), ho.keeps ((Keeps.refl (Is g) _).setCell (p := ⟨g, 18, none⟩) (.inl rfl) _) fun k hk => not_is hk, hx⟩
/-- A field is turned. -/
theorem Wr.field (h : Wr w g xs l ok) {i : Nat} (hi : i < 18) (v : Value) : Wr (w.setCell ⟨g, i, none⟩ v) g (xs.set i v) l ok := by
  obtain ⟨A, n, c, h, ho, hx⟩ := h
  exact ⟨A, n, c, by rw [← wr_set hi hx]; exact h.set i v, ho.keeps ((Keeps.refl (Is g) _).setCell (p := ⟨g, i, none⟩) (.inl rfl) _) fun k hk => not_is hk, by simp [hx]⟩
/-- Two blocks. -/
def Two18 (a b : Nat) : Nat → Prop := fun k => k = a ∨ k = b
theorem OwB.far {base n c q : Nat} {A : Option Addr} {t : TypeId} {cs : List Value} (h : OwB w base A n c l) (hq : Blk w q t cs) (ht : t ≠ 5) (k : Keeps (Is q) w w') : OwB w' base A n c l := by
  have hlt := Own.lt h
  refine ⟨h.1, ?_⟩
  rcases h.2 with h2 | ⟨b, cap, cur, fz, hv, hbb, hh, r⟩
  · exact .inl h2
  · refine .inr ⟨b, cap, cur, fz, hv, hbb, (k.block b (hlt b (by rw [hv]; rfl)).2 (fun e => ?_)).trans hh, r⟩
    have e' : b = q := e
    subst e'
    unfold Blk at hq
    rw [hq] at hh
    injection hh with h1
    injection h1 with _ h2
    exact ht h2
theorem Wr.far {q : Nat} {t : TypeId} {cs : List Value} (h : Wr w g xs l ok) (hq : Blk w q t cs) (ht : t ≠ 5) (hg : q ≠ g) (k : Keeps (Is q) w w') : Wr w' g xs l ok := by
  obtain ⟨A, n, c, h1, h2, h3⟩ := h
  exact ⟨A, n, c, h1.keeps k (fun e => hg (by have e' : g = q := e; exact e'.symm)), h2.far hq ht k, h3⟩
theorem Wr.keeps {q : Nat} (h : Wr w g xs l ok) (k : Keeps (Is q) w w') (hq : q ≠ g) (ho : ∀ A n c, OwB w (g + 1) A n c l → OwB w' (g + 1) A n c l) : Wr w' g xs l ok := by
  obtain ⟨A, n, c, h1, h2, h3⟩ := h
  exact ⟨A, n, c, h1.keeps k (fun e => hq (by have e' : g = q := e; exact e'.symm)), ho _ _ _ h2, h3⟩
end

def UnitWr (g : Nat) (xs : List Value) (l : List UInt8) (ok : Bool) (w : World) (e : Ending) (w' : World) : Prop :=
  e = .returned (.tuple #[]) ∧ ∃ l' ok', Hid (l' = l) ∧ Hid (ok' = ok) ∧ Wr w' g xs l' ok' ∧ Keeps (Is g) w w'

/-- From 0 to most. -/
def inB (n most : Int) : Bool := decide (0 ≤ n) && decide (n ≤ most)

theorem wBound_any (g : Nat) (xs : List Value) (l : List UInt8) (ok : Bool) (n most : Int) (w : World) (h : Wr w g xs l ok) :
    Calls Try.prog 52 #[.pointer (some ⟨g, 0, none⟩), .int .i64 n, .int .i64 most] w (UnitWr g xs l (ok && inB n most) w) := by
  obtain ⟨A, m, c, hB, ho, hx⟩ := h
  have c19 := hB.cell 19 _ (wr_at19 hx)
  have f19 := hB.free 19
  have hS := fun b => Wr.note hB ho hx b
  have hk : ∀ b, Keeps (Is g) w (w.setCell ⟨g, 19, none⟩ (.bool b)) := fun b => (Keeps.refl (Is g) _).setCell (p := ⟨g, 19, none⟩) (.inl rfl) _
  have HS := Lib.hid hS
  have HK := Lib.hid hk
  clear hB ho hS hk
  rcases ok with _ | _
  · go_enter Try.func52, Try.ntmps52
    go_wp2
    go_end0
    exact ⟨rfl, l, false, rfl, Lib.hid (by simp), HS.out false, HK.out false⟩
  · by_cases h0 : 0 ≤ n
    · by_cases h1 : n ≤ most
      · go_enter Try.func52, Try.ntmps52
        go_wp2
        go_end0
        exact ⟨rfl, l, true, rfl, Lib.hid (by simp [inB, h0, h1]), HS.out true, HK.out true⟩
      · go_enter Try.func52, Try.ntmps52
        go_wp2
        go_end0
        exact ⟨rfl, l, false, rfl, Lib.hid (by simp [inB, show ¬ n ≤ most by omega]), HS.out false, HK.out false⟩
    · go_enter Try.func52, Try.ntmps52
      go_wp2
      go_end0
      exact ⟨rfl, l, false, rfl, Lib.hid (by simp [inB, show ¬ 0 ≤ n by omega]), HS.out false, HK.out false⟩
end Go.Proofs.Ytoplkglnjgllnaa
