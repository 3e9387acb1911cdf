/-
  Entries of directories: their bytes, packed as far as there is room; the small world's names.
-/
import Derived.Test.YtanafeeekofejaaStatB
import Derived.Test.YtanafeeekofejaaLittleC
import Derived.Test.YtanafeeekofejaaLittleT
import Derived.Test.YtanafeeekofejaaName
import Derived.Test.YtanafeeekofejaaRowK
import Derived.Test.YtanafeeekofejaaFew
namespace Go.Proofs.Ytanafeeekofejaa
open Go.RowKit
set_option linter.unusedVariables false
set_option linter.unusedSimpArgs false

/-- An entry: its name, Ino and Gen. -/
abbrev Ent := List UInt8 × Nat × Nat
def entC (e : Ent) : List Value := [.string (st e.1), .int .i64 e.2.1, .int .i64 e.2.2]
def entB (e : Ent) : List UInt8 := entL e.1 e.2.1 e.2.2
def EntOk (e : Ent) : Prop := isName e.1 = true ∧ e.1.length ≤ 32 ∧ e.2.1 ≤ 4294967295 ∧ e.2.2 ≤ 4294967295
theorem entC_one (e : Ent) : ∀ v ∈ entC e, v.oneCell' = true := by
  intro v hv
  simp only [entC, List.mem_cons, List.not_mem_nil, or_false] at hv
  rcases hv with rfl | rfl | rfl <;> rfl
theorem entB_length (e : Ent) : (entB e).length = 10 + e.1.length := by simp [entB, entL, le_length]; omega
theorem entsElem : Elem Try.prog 47 53 (.agg #[.string ByteArray.empty, .int .i64 0, .int .i64 0]) 3 32 := elem_of Try.underlying47 (by kernel_rfl) rfl (by omega)

/-- As many entries' bytes as there is room for, and how many these are. -/
def packAux (room : Int) : List Ent → List UInt8 → Nat → List UInt8 × Nat
  | [], acc, i => (acc, i)
  | e :: es, acc, i => if room < (acc.length : Int) + (entB e).length then (acc, i) else packAux room es (acc ++ entB e) (i + 1)

/-! ### the small world's names -/
def namesW : List (List UInt8) := [[97], [98], [97, 98], [99], [122], [66], [97, 32, 98], [46, 46, 46], List.replicate 32 97, [45]]
def ofW (n : Int) : List UInt8 := (namesW[(up0 n % 10).toNat]?).getD []
theorem names_ok : ∀ l ∈ namesW, isName l = true ∧ l.length ≤ 32 := by decide
theorem ofW_ok (n : Int) : isName (ofW n) = true ∧ (ofW n).length ≤ 32 := by
  have h0 := Int.emod_nonneg (up0 n) (show (10 : Int) ≠ 0 by omega)
  have h1 := Int.emod_lt_of_pos (up0 n) (show (0 : Int) < 10 by omega)
  have hl : namesW.length = 10 := rfl
  have hk : (up0 n % 10).toNat < namesW.length := by omega
  unfold ofW
  rw [List.getElem?_eq_getElem hk]
  exact names_ok _ (List.getElem_mem hk)

theorem of_small (n : Int) (w : World) (h0 : -9223372036854775808 ≤ n) (h1 : n ≤ 9223372036854775807) : Calls Try.prog 36 #[.int .i64 n] w fun e w' => e = .returned (.string (st (ofW n))) ∧ Below w.heap.size w w' := by
  have hB := Blk.new w 9 (sv namesW)
  have hb : Below w.heap.size w (w.alloc (.cells (sv namesW).toArray 9)) := (Below.refl _ _).alloc (Nat.le_refl _) _
  obtain ⟨W, hW⟩ : ∃ W, W = w.alloc (.cells (sv namesW).toArray 9) := ⟨_, rfl⟩
  rw [← hW] at hB hb
  have HB := Lib.hid hB
  have Hb := Lib.hid hb
  have hW2 : W = w.alloc (.cells #[.string ⟨#[97]⟩, .string ⟨#[98]⟩, .string ⟨#[97, 98]⟩, .string ⟨#[99]⟩, .string ⟨#[122]⟩, .string ⟨#[66]⟩, .string ⟨#[97, 32, 98]⟩, .string ⟨#[46, 46, 46]⟩, .string ⟨#[97, 97, 97, 97, 97, 97, 97, 97, 97, 97, 97, 97, 97, 97, 97, 97, 97, 97, 97, 97, 97, 97, 97, 97, 97, 97, 97, 97, 97, 97, 97, 97]⟩, .string ⟨#[45]⟩] 9) := hW
  clear hB hb hW
  go_enter Try.func36, Try.ntmps36
  go_wp2_with fail
  rw [← hW2]
  clear hW2
  refine (around_any n 10 _ h0 h1 (by omega) (by omega)).mono ?_
  rintro e w1 ⟨k, hk, hk2, rfl, rfl⟩
  have hl : namesW.length = 10 := rfl
  obtain ⟨x, hx⟩ : ∃ x, namesW[k]? = some x := ⟨_, List.getElem?_eq_getElem (by omega)⟩
  have hc := HB.out.cell k (.string (st x)) (by rw [sv_at, hx]; rfl)
  have hres : ofW n = x := by
    unfold ofW
    have : (up0 n % 10).toNat = k := by have := hk.out; omega
    rw [this, hx]; rfl
  have HRES := Lib.hid hres
  have k0 : (0 : Int) ≤ k := by omega
  have k1 : (k : Int) < 10 := by omega
  clear hx hres hl hk
  go_wp2
  go_ret
  exact ⟨by rw [HRES.out]; rfl, Hb.out⟩

/-! ### one entry's bytes, the reference's -/
theorem refEntry_any (s : List UInt8) (ino gen : Nat) (w : World) (hs : s.length ≤ 65535) (hi : ino ≤ 4294967295) (hg : gen ≤ 4294967295) :
    Calls Try.prog 27 #[.agg #[.string (st s), .int .i64 ino, .int .i64 gen]] w (LayPost w (entL s ino gen)) := by
  have hwi : IntKind.u64.wrap (ino : Int) = ino := by rw [wrap_u64_nat ino (by omega)]
  have hwg : IntKind.u64.wrap (gen : Int) = gen := by rw [wrap_u64_nat gen (by omega)]
  go_enter Try.func27, Try.ntmps27
  go_wp2_with fail
  refine (refText_any s _ hs).mono ?_
  rintro e w1 ⟨A1, n1, c1, l1, hl1, rfl, hown1, hb1⟩
  have hB := (Blk.new w 53 [.string (st s), .int .i64 ino, .int .i64 gen]).up hb1
  have k1 := hB.cell 1 _ rfl
  have hn1 : n1 ≤ 65540 := by rw [← hown1.len, hl1.out]; simp [le_length]; omega
  have hb0 : Below w.heap.size w w1 := ((Below.refl _ _).alloc (Nat.le_refl _) _).trans (hb1.mono (by simp))
  have HB1 := Lib.hid hb0
  have hown1' := hown1.lower (show w.heap.size + 1 ≤ _ by simp)
  clear hown1
  go_wp2_with fail
  refine (number_any ino 4 _ (by omega) (by omega)).mono ?_
  rintro e w2 ⟨A2, n2, c2, l2, hl2, rfl, hown2, hb2⟩
  obtain rfl : n2 = 4 := by rw [← hown2.len, hl2.out, le_length]
  have k2 := (hB.up hb2).cell 2 _ rfl
  have HB2 := Lib.hid (Up.trans HB1.out hb2)
  have H2 := Lib.hid (hown2.rd.src (P := Try.prog) (c := c2) 46 5 Try.underlying46)
  have hownA := hown1'.up hb2
  have hlo2 : w.heap.size + 1 ≤ w2.heap.size := Nat.le_trans (by simpa using hb1.size) hb2.size
  clear k1 hb2 hown1' hb1 hb0
  go_wp2_with (at_builtin; go_must (refine wpList_appendB bytesElem rfl (.tmp 7) (.tmp 12) 46 rfl (w.heap.size + 1) A1 n1 c1 l1 rfl hownA _ rfl 4 l2 H2.out (by omega) hlo2 ?_); intro A3 n3 c3 l3 w3 hl3 hn3 hown3 hb3 hg3; have k2' := (hb3.cell (p := ⟨w.heap.size, 2, none⟩) (Nat.lt_succ_self _)).trans k2; clear k2)
  obtain rfl : n3 = n1 + 4 := hn3.out
  have HB3 := Lib.hid (HB2.out.trans (hb3.mono (by omega)))
  have hs3 := hb3.size
  refine (number_any gen 4 _ (by omega) (by omega)).mono ?_
  rintro e w4 ⟨A4, n4, c4, l4, hl4, rfl, hown4, hb4⟩
  obtain rfl : n4 = 4 := by rw [← hown4.len, hl4.out, le_length]
  have H4 := Lib.hid (hown4.rd.src (P := Try.prog) (c := c4) 46 5 Try.underlying46)
  have hownC := hown3.up hb4
  have hlo4 : w.heap.size + 1 ≤ w4.heap.size := Nat.le_trans (Nat.le_trans hlo2 hs3) hb4.size
  have HB4 := Lib.hid (HB3.out.trans (hb4.mono HB3.out.size))
  clear hb3 hb4 hg3 k2'
  go_wp2_with (at_builtin; go_must (refine wpList_appendB bytesElem rfl (.tmp 14) (.tmp 19) 46 rfl (w.heap.size + 1) A3 (n1 + 4) c3 l3 rfl hownC _ rfl 4 l4 H4.out (by omega) hlo4 ?_); intro A5 n5 c5 l5 w5 hl5 hn5 hown5 hb5 hg5)
  go_ret
  refine ⟨A5, n5, c5, l5, ?_, rfl, hown5.lower (by omega), HB4.out.trans (hb5.mono (by omega))⟩
  show _ = _
  rw [hl5.out, hl4.out, hl3.out, hl2.out, hl1.out, entL]
  simp [List.append_assoc]
end Go.Proofs.Ytanafeeekofejaa
