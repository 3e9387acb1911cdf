/-
  Layer 11: entries, their names' order, the comparison.
-/
import Derived.Test.YtoaemkbdfinaoaaName
import Derived.Test.YtoaemkbdfinaoaaRowK
import Derived.Test.YtoaemkbdfinaoaaRowInV
import Derived.Test.YtoaemkbdfinaoaaPlan3
import Derived.Test.YtoaemkbdfinaoaaPlan4
import Derived.Test.YtoaemkbdfinaoaaBlk
import Derived.Test.YtoaemkbdfinaoaaLawB
import Derived.Test.YtoaemkbdfinaoaaFew
import Derived.Test.YtoaemkbdfinaoaaLoadBlk
import Derived.Lib.Bytealg
import Derived.Laws.Externs
namespace Go.Proofs.Ytoaemkbdfinaoaa
open Go.RowKit
set_option linter.unusedVariables false
set_option linter.unusedSimpArgs false

/-- An entry: its name, Ino and Gen. -/
abbrev EntI := List UInt8 × Int × Int
def eiC (e : EntI) : List Value := [.string (st e.1), .int .i64 e.2.1, .int .i64 e.2.2]
theorem eiC_one (e : EntI) : ∀ v ∈ eiC e, v.oneCell' = true := by
  intro v hv
  simp only [eiC, List.mem_cons, List.not_mem_nil, or_false] at hv
  rcases hv with rfl | rfl | rfl <;> rfl
theorem entsElem : Elem Try.prog 25 42 (.agg #[.string ByteArray.empty, .int .i64 0, .int .i64 0]) 3 32 := elem_of Try.underlying25 (by kernel_rfl) rfl (by omega)

/-! ### the small world's names -/
def namesW : List (List UInt8) := [[97], [98], [97, 98], [99], [122], [66], [97, 32, 98], [46, 46, 46], List.replicate 32 97, [45]]
def ofW (n : Int) : List UInt8 := (namesW[(up0 n % 10).toNat]?).getD []
theorem names_ok : ∀ l ∈ namesW, isName l = true ∧ l.length ≤ 32 := by decide
theorem ofW_ok (n : Int) : isName (ofW n) = true ∧ (ofW n).length ≤ 32 := by
  have h0 := Int.emod_nonneg (up0 n) (show (10 : Int) ≠ 0 by omega)
  have h1 := Int.emod_lt_of_pos (up0 n) (show (0 : Int) < 10 by omega)
  have hl : namesW.length = 10 := rfl
  have hk : (up0 n % 10).toNat < namesW.length := by omega
  unfold ofW
  rw [List.getElem?_eq_getElem hk]
  exact names_ok _ (List.getElem_mem hk)

theorem of_small (n : Int) (w : World) (h0 : -9223372036854775808 ≤ n) (h1 : n ≤ 9223372036854775807) : Calls Try.prog 9 #[.int .i64 n] w fun e w' => e = .returned (.string (st (ofW n))) ∧ Below w.heap.size w w' := by
  have hB := Blk.new w 9 (sv namesW)
  have hb : Below w.heap.size w (w.alloc (.cells (sv namesW).toArray 9)) := (Below.refl _ _).alloc (Nat.le_refl _) _
  obtain ⟨W, hW⟩ : ∃ W, W = w.alloc (.cells (sv namesW).toArray 9) := ⟨_, rfl⟩
  rw [← hW] at hB hb
  have HB := Lib.hid hB
  have Hb := Lib.hid hb
  have hW2 : W = w.alloc (.cells #[.string ⟨#[97]⟩, .string ⟨#[98]⟩, .string ⟨#[97, 98]⟩, .string ⟨#[99]⟩, .string ⟨#[122]⟩, .string ⟨#[66]⟩, .string ⟨#[97, 32, 98]⟩, .string ⟨#[46, 46, 46]⟩, .string ⟨#[97, 97, 97, 97, 97, 97, 97, 97, 97, 97, 97, 97, 97, 97, 97, 97, 97, 97, 97, 97, 97, 97, 97, 97, 97, 97, 97, 97, 97, 97, 97, 97]⟩, .string ⟨#[45]⟩] 9) := hW
  clear hB hb hW
  go_enter Try.func9, Try.ntmps9
  go_wp2_with fail
  rw [← hW2]
  clear hW2
  refine (around_any n 10 _ h0 h1 (by omega) (by omega)).mono ?_
  rintro e w1 ⟨k, hk, hk2, rfl, rfl⟩
  have hl : namesW.length = 10 := rfl
  obtain ⟨x, hx⟩ : ∃ x, namesW[k]? = some x := ⟨_, List.getElem?_eq_getElem (by omega)⟩
  have hc := HB.out.cell k (.string (st x)) (by rw [sv_at, hx]; rfl)
  have hres : ofW n = x := by
    unfold ofW
    have : (up0 n % 10).toNat = k := by have := hk.out; omega
    rw [this, hx]; rfl
  have HRES := Lib.hid hres
  have k0 : (0 : Int) ≤ k := by omega
  have k1 : (k : Int) < 10 := by omega
  clear hx hres hl hk
  go_wp2
  go_ret
  exact ⟨by rw [HRES.out]; rfl, Hb.out⟩

/-! ### the order -/
abbrev lessB (a b : List UInt8) : Bool := Op.bytesLess a b
theorem cmp_less : ∀ (a b : List UInt8), (Lib.compareBytes a b < 0 ↔ lessB a b = true)
  | [], [] => by simp [Lib.compareBytes, lessB, Op.bytesLess]
  | [], _ :: _ => by simp [Lib.compareBytes, lessB, Op.bytesLess]
  | _ :: _, [] => by simp [Lib.compareBytes, lessB, Op.bytesLess]
  | x :: a, y :: b => by
    have ih := cmp_less a b
    simp only [Lib.compareBytes, lessB, Op.bytesLess] at ih ⊢
    by_cases h1 : x < y
    · simp [h1]
    · by_cases h2 : y < x
      · have hne : x ≠ y := fun e => by rw [e] at h2; exact UInt8.lt_irrefl _ h2
        simp [h1, h2, hne]
      · have he : x = y := UInt8.le_antisymm (UInt8.not_lt.1 h2) (UInt8.not_lt.1 h1)
        subst he
        simp [h1, ih]
theorem cmp_zero : ∀ (a b : List UInt8), (Lib.compareBytes a b = 0 ↔ a = b)
  | [], [] => by simp [Lib.compareBytes]
  | [], _ :: _ => by simp [Lib.compareBytes]
  | _ :: _, [] => by simp [Lib.compareBytes]
  | x :: a, y :: b => by
    have ih := cmp_zero a b
    simp only [Lib.compareBytes, List.cons.injEq]
    by_cases h1 : x < y
    · have hne : x ≠ y := fun e => by rw [e] at h1; exact UInt8.lt_irrefl _ h1
      simp [h1, hne]
    · by_cases h2 : y < x
      · have hne : x ≠ y := fun e => by rw [e] at h2; exact UInt8.lt_irrefl _ h2
        simp [h1, h2, hne]
      · have he : x = y := UInt8.le_antisymm (UInt8.not_lt.1 h2) (UInt8.not_lt.1 h1)
        subst he
        simp [h1, ih]
theorem cmp_range : ∀ (a b : List UInt8), -1 ≤ Lib.compareBytes a b ∧ Lib.compareBytes a b ≤ 1
  | [], [] => by simp [Lib.compareBytes]
  | [], _ :: _ => by simp [Lib.compareBytes]
  | _ :: _, [] => by simp [Lib.compareBytes]
  | x :: a, y :: b => by
    have ih := cmp_range a b
    simp only [Lib.compareBytes]
    repeat' split
    · omega
    · omega
    · exact ih
theorem less_irrefl : ∀ (a : List UInt8), lessB a a = false
  | [] => by simp [lessB, Op.bytesLess]
  | x :: a => by
    have ih := less_irrefl a
    simp only [lessB, Op.bytesLess] at ih ⊢
    simp [ih, UInt8.lt_irrefl]
theorem less_trans : ∀ (a b c : List UInt8), lessB a b = true → lessB b c = true → lessB a c = true
  | _, _, [], _, h2 => by cases h : (by assumption : List UInt8) <;> simp_all [lessB, Op.bytesLess]
  | _, [], _ :: _, h1, _ => by simp_all [lessB, Op.bytesLess]
  | [], _ :: _, _ :: _, _, _ => by simp [lessB, Op.bytesLess]
  | x :: a, y :: b, z :: c, h1, h2 => by
    have ih := less_trans a b c
    simp only [lessB, Op.bytesLess, Bool.or_eq_true, Bool.and_eq_true, decide_eq_true_eq, beq_iff_eq] at ih h1 h2 ⊢
    rcases h1 with h1 | ⟨rfl, h1⟩
    · rcases h2 with h2 | ⟨rfl, h2⟩
      · exact .inl (UInt8.lt_trans h1 h2)
      · exact .inl h1
    · rcases h2 with h2 | ⟨rfl, h2⟩
      · exact .inl h2
      · exact .inr ⟨rfl, ih h1 h2⟩
theorem less_total (a b : List UInt8) (h : lessB a b = false) (hne : a ≠ b) : lessB b a = true := by
  have h1 := cmp_less a b
  have h2 := cmp_less b a
  have h3 := cmp_zero a b
  have : ∀ a b : List UInt8, Lib.compareBytes a b = - Lib.compareBytes b a := by
    intro a
    induction a with
    | nil => intro b; cases b <;> simp [Lib.compareBytes]
    | cons x a ih =>
      intro b
      cases b with
      | nil => simp [Lib.compareBytes]
      | cons y b =>
        simp only [Lib.compareBytes]
        by_cases h1 : x < y
        · have : ¬ y < x := fun h => UInt8.lt_irrefl _ (UInt8.lt_trans h1 h)
          simp [h1, this]
        · by_cases h2 : y < x
          · simp [h1, h2]
          · simp [h1, h2, ih b]
  rw [← h2]
  have h4 := this a b
  rw [h] at h1
  have h5 : ¬ Lib.compareBytes a b < 0 := fun x => by have := h1.1 x; cases this
  have h6 : ¬ Lib.compareBytes a b = 0 := fun x => hne (h3.1 x)
  omega

theorem compare_any (a b : List UInt8) (w : World) : Calls Try.prog 39 #[.string (st a), .string (st b)] w fun e w' => e = .returned (.int .i64 (Lib.compareBytes a b)) ∧ w = w' := by
  have hc : Calls Try.prog 42 #[.string (st a), .string (st b)] w fun e w' => e = .returned (.int .i64 (Lib.compareBytes a b)) ∧ w = w' := by
    go_enter Try.func42, Try.ntmps42
    go_wp2
    rw [run_callFunc_extern Try.func44 (by kernel_rfl) (by kernel_rfl) (by kernel_rfl) (e := Extern.BytealgCompare.compare) (by kernel_rfl), Lib.run_compareString]
    simp only [Result.andThen]
    rw [Oper.upon_value]
    go_wp2
    go_ret
    exact ⟨by simp [st_list, st], rfl⟩
  go_enter Try.func39, Try.ntmps39
  go_wp2_with fail
  refine hc.mono ?_
  rintro e w' ⟨rfl, rfl⟩
  go_wp2
  go_ret
  exact ⟨rfl, rfl⟩
end Go.Proofs.Ytoaemkbdfinaoaa
