/-
  Layer 18's helpers: which fields are laid; a type, a number of 32 bits, made of any.
-/
import Derived.Test.YtoplkglnjgllnaaVals
import Derived.Test.YtoplkglnjgllnaaFew
import Derived.Test.YtoplkglnjgllnaaPlan3
import Derived.Test.YtoplkglnjgllnaaBlk
import Derived.Test.YtoplkglnjgllnaaLawB
import Derived.Deep.CutBlock
namespace Go.Proofs.Ytoplkglnjgllnaa
open Go.RowKit
set_option linter.unusedVariables false
set_option linter.unusedSimpArgs false

def kindsW : List Int := [101, 105, 107, 109, 111, 113, 115, 117, 119, 121, 123, 125, 127]
def fieldsW : List (List UInt8) := [[122, 110], [113], [101], [45], [108], [113, 105], [113, 105], [100], [99], [45], [45], [115], [45]]
/-- The fields that are laid of a type. -/
def fieldsM (k : Int) : List UInt8 := (fieldsW[kindsW.findIdx (· == k)]?).getD []
def hasM (k : Int) (f : UInt8) : Bool := (fieldsM k).contains f
/-- A type, made of any number. -/
def kindB (n : Int) : Int := (kindsW[(up0 n % 13).toNat]?).getD 0

def FdRelT (w : World) (k : Int) (i : Value) (wr : World) : Prop := ∃ j : Nat, j ≤ 13 ∧ i = .int .i64 j ∧ wr = w ∧ j ≤ kindsW.findIdx (· == k)

theorem sv_fieldsW : sv fieldsW = [.string (st [122, 110]), .string (st [113]), .string (st [101]), .string (st [45]), .string (st [108]), .string (st [113, 105]), .string (st [113, 105]), .string (st [100]), .string (st [99]), .string (st [45]), .string (st [45]), .string (st [115]), .string (st [45])] := rfl

set_option maxRecDepth 100000 in
set_option maxHeartbeats 2000000 in
theorem tFields_any (k : Int) (w : World) : Calls Try.prog 34 #[.int .i64 k] w fun e w' => e = .returned (.string (st (fieldsM k))) ∧ Below w.heap.size w w' := by
  have hB1 := Blk.new w 3 (kindsW.map (Value.int .i64))
  have hB2 := Blk.new (w.alloc (.cells (kindsW.map (Value.int .i64)).toArray 3)) 9 (sv fieldsW)
  have hb : Below w.heap.size w ((w.alloc (.cells (kindsW.map (Value.int .i64)).toArray 3)).alloc (.cells (sv fieldsW).toArray 9)) := ((Below.refl _ _).alloc (Nat.le_refl _) _).alloc (by simp) _
  have hB1' := hB1.alloc (.cells (sv fieldsW).toArray 9)
  have hs : (w.alloc (.cells (kindsW.map (Value.int .i64)).toArray 3)).heap.size = w.heap.size + 1 := by simp
  rw [hs] at hB2
  obtain ⟨W, hW⟩ : ∃ W, W = (w.alloc (.cells (kindsW.map (Value.int .i64)).toArray 3)).alloc (.cells (sv fieldsW).toArray 9) := ⟨_, rfl⟩
  rw [← hW] at hB1' hB2 hb
  have HB1 := Lib.hid hB1'
  have HB2 := Lib.hid hB2
  have HB := Lib.hid hb
  have hW2 : W = (w.alloc (.cells #[.int .i64 101, .int .i64 105, .int .i64 107, .int .i64 109, .int .i64 111, .int .i64 113, .int .i64 115, .int .i64 117, .int .i64 119, .int .i64 121, .int .i64 123, .int .i64 125, .int .i64 127] 3)).alloc (.cells #[.string ⟨#[122, 110]⟩, .string ⟨#[113]⟩, .string ⟨#[101]⟩, .string ⟨#[45]⟩, .string ⟨#[108]⟩, .string ⟨#[113, 105]⟩, .string ⟨#[113, 105]⟩, .string ⟨#[100]⟩, .string ⟨#[99]⟩, .string ⟨#[45]⟩, .string ⟨#[45]⟩, .string ⟨#[115]⟩, .string ⟨#[45]⟩] 9) := hW
  clear hB1 hB2 hb hB1' hW hs
  go_enter Try.func34, Try.ntmps34
  go_wp2
  rw [← hW2]
  clear hW2
  go_loopw [5] (fun i wr => FdRelT W k i wr) (fun i _ => 13 - (intOf i).toNat)
  case atStart => exact ⟨0, by omega, rfl, rfl, by omega⟩
  case round =>
    obtain ⟨j, hj, rfl, rfl, hf⟩ := hrel
    by_cases hlt : j < 13
    · have j0 : (0 : Int) ≤ j := by omega
      have j1 : (j : Int) < 13 := by omega
      have hkl : kindsW.length = 13 := rfl
      have hjl : j < kindsW.length := by omega
      obtain ⟨x, hx⟩ : ∃ x, kindsW[j]? = some x := ⟨_, List.getElem?_eq_getElem hjl⟩
      have hfl : fieldsW.length = 13 := rfl
      obtain ⟨y, hy⟩ : ∃ y, fieldsW[j]? = some y := ⟨_, List.getElem?_eq_getElem (by omega)⟩
      have kc := HB1.out.cell j (.int .i64 x) (by rw [List.getElem?_map, hx]; rfl)
      have kd := HB2.out.cell j (.string (st y)) (by rw [sv_at, hy]; rfl)
      have hxe : kindsW[j] = x := by rw [List.getElem?_eq_getElem hjl] at hx; exact Option.some.inj hx
      by_cases he : x = k
      · have hidx : kindsW.findIdx (· == k) = j := Nat.le_antisymm (by
          rcases Nat.lt_or_ge j (kindsW.findIdx (· == k)) with h2 | h2
          · have h3 := List.not_of_lt_findIdx h2
            rw [hxe] at h3
            simp [he] at h3
          · exact h2) hf
        have hres : fieldsM k = y := by unfold fieldsM; rw [hidx, hy]; rfl
        have HRES := Lib.hid hres
        have heq : (x == k) = true := by simpa using he
        subst he
        clear hx hres hidx hxe hy
        go_wp2
        go_ret
        exact ⟨by rw [HRES.out]; rfl, HB.out⟩
      · have heq : (x == k) = false := by simpa using he
        have hnx : j + 1 ≤ kindsW.findIdx (· == k) := by
          rcases Nat.lt_or_ge j (kindsW.findIdx (· == k)) with h2 | h2
          · omega
          · have h3 : kindsW.findIdx (· == k) = j := by omega
            have h4 := List.findIdx_getElem (p := (· == k)) (xs := kindsW) (w := by omega)
            simp only [h3, hxe] at h4
            exact absurd (by simpa using h4) he
        have HNX := Lib.hid hnx
        clear hx hnx kd hxe hy
        go_wp2
        go_roundw
        case rel => exact ⟨j + 1, by omega, by go_num, rfl, HNX.out⟩
        case measure => simp [intOf]; omega
    · obtain rfl : j = 13 := by omega
      have hres : fieldsM k = [] := by
        unfold fieldsM
        rw [List.getElem?_eq_none (by have : fieldsW.length = 13 := rfl; omega)]; rfl
      have HRES := Lib.hid hres
      clear hres
      go_wp2
      go_ret
      exact ⟨by rw [HRES.out]; rfl, HB.out⟩

def HsRelT (w : World) (l : List UInt8) (f : UInt8) (i : Value) (wr : World) : Prop := ∃ j : Nat, j ≤ l.length ∧ i = .int .i64 j ∧ wr = w ∧ f ∉ l.take j
theorem fieldsM_len (k : Int) : (fieldsM k).length ≤ 4 := by
  unfold fieldsM
  have : ∀ l ∈ fieldsW, l.length ≤ 4 := by decide
  cases h : fieldsW[kindsW.findIdx (· == k)]? with
  | none => simp
  | some l => exact this l (List.mem_of_getElem? h)

set_option maxHeartbeats 2000000 in
theorem tHas_any (k : Int) (f : UInt8) (w : World) : Calls Try.prog 51 #[.int .i64 k, .int .u8 (f.toNat : Int)] w fun e w' => e = .returned (.bool (hasM k f)) ∧ Below w.heap.size w w' := by
  go_enter Try.func51, Try.ntmps51
  go_wp2_with fail
  refine (tFields_any k _).mono ?_
  rintro e w1 ⟨rfl, hb⟩
  have hl4 := fieldsM_len k
  obtain ⟨l, hl⟩ : ∃ l, l = fieldsM k := ⟨_, rfl⟩
  have HH : Hid (hasM k f = l.contains f) := Lib.hid (by rw [hl]; rfl)
  rw [← hl] at hl4 ⊢
  clear hl
  have hsz : (st l).size = l.length := st_size l
  have HB := Lib.hid hb
  clear hb
  go_wp2
  go_loopw [6] (fun i wr => HsRelT w1 l f i wr) (fun i _ => l.length - (intOf i).toNat)
  case atStart => exact ⟨0, by omega, rfl, rfl, by simp⟩
  case round =>
    obtain ⟨j, hj, rfl, rfl, hf⟩ := hrel
    by_cases hlt : j < l.length
    · have j0 : (0 : Int) ≤ j := by omega
      have j1 : (j : Int) < l.length := by omega
      obtain ⟨x, hx, hxm, htk⟩ : ∃ x : UInt8, (∀ h : j < (st l).size, (st l)[j]'h = x) ∧ x ∈ l ∧ l.take (j + 1) = l.take j ++ [x] :=
        ⟨l[j], fun h => rfl, List.getElem_mem hlt, by rw [List.take_add_one, List.getElem?_eq_getElem hlt]; rfl⟩
      by_cases he : x = f
      · have hc : l.contains f = true := by rw [← he]; simpa using hxm
        have HC := Lib.hid hc
        have t0 : ((x.toNat : Int) == (f.toNat : Int)) = true := by rw [he]; simp
        have t1 : (x.toNat : Int) = (f.toNat : Int) := by rw [he]
        clear hc hxm htk he
        go_wp2
        go_ret
        exact ⟨by rw [HH.out, HC.out]; rfl, HB.out⟩
      · have t0 : ((x.toNat : Int) == (f.toNat : Int)) = false := by
          rw [beq_eq_false_iff_ne]; intro e; apply he; apply UInt8.toNat_inj.1; omega
        have t1 : ¬ (x.toNat : Int) = (f.toNat : Int) := by intro e; apply he; apply UInt8.toNat_inj.1; omega
        have hnf : f ∉ l.take (j + 1) := by rw [htk, List.mem_append]; rintro (h | h); exact hf h; simp at h; exact he h.symm
        have HNF := Lib.hid hnf
        clear hxm htk he hnf
        go_wp2
        go_roundw
        case rel => exact ⟨j + 1, by omega, by go_num, rfl, HNF.out⟩
        case measure => simp [intOf]; omega
    · obtain rfl : j = l.length := by omega
      rw [List.take_length] at hf
      have hc : l.contains f = false := by simpa using hf
      have HC := Lib.hid hc
      clear hc
      go_wp2
      go_ret
      exact ⟨by rw [HH.out, HC.out]; rfl, HB.out⟩

theorem tLow_any (n : Int) (w : World) (h0 : -9223372036854775808 ≤ n) (h1 : n ≤ 9223372036854775807) : Calls Try.prog 27 #[.int .i64 n] w fun e w' => ∃ k : Nat, Hid ((k : Int) = up0 n % 4294967296) ∧ k < 4294967296 ∧ e = .returned (.int .i64 k) ∧ w = w' := by
  go_enter Try.func27, Try.ntmps27
  go_wp2_with fail
  refine (around_any n 4294967296 _ h0 h1 (by omega) (by omega)).mono ?_
  rintro e w1 ⟨k, hk, hk2, rfl, rfl⟩
  go_wp2
  go_ret
  exact ⟨k, hk, hk2, rfl, rfl⟩

theorem tHigh_any (n : Int) (w : World) (h0 : -9223372036854775808 ≤ n) (h1 : n ≤ 9223372036854775807) : Calls Try.prog 30 #[.int .i64 n] w fun e w' => ∃ k : Nat, Hid ((k : Int) = up0 n % 4611686018427387905) ∧ k < 4611686018427387905 ∧ e = .returned (.int .i64 k) ∧ w = w' := by
  go_enter Try.func30, Try.ntmps30
  go_wp2_with fail
  refine (around_any n 4611686018427387905 _ h0 h1 (by omega) (by omega)).mono ?_
  rintro e w1 ⟨k, hk, hk2, rfl, rfl⟩
  go_wp2
  go_ret
  exact ⟨k, hk, hk2, rfl, rfl⟩

theorem tKind_any (n : Int) (w : World) (h0 : -9223372036854775808 ≤ n) (h1 : n ≤ 9223372036854775807) : Calls Try.prog 26 #[.int .i64 n] w fun e w' => e = .returned (.int .i64 (kindB n)) ∧ Below w.heap.size w w' := by
  have hB := Blk.new w 3 [.int .i64 101, .int .i64 105, .int .i64 107, .int .i64 109, .int .i64 111, .int .i64 113, .int .i64 115, .int .i64 117, .int .i64 119, .int .i64 121, .int .i64 123, .int .i64 125, .int .i64 127]
  have hb : Below w.heap.size w (w.alloc (.cells #[.int .i64 101, .int .i64 105, .int .i64 107, .int .i64 109, .int .i64 111, .int .i64 113, .int .i64 115, .int .i64 117, .int .i64 119, .int .i64 121, .int .i64 123, .int .i64 125, .int .i64 127] 3)) := (Below.refl _ _).alloc (Nat.le_refl _) _
  go_enter Try.func26, Try.ntmps26
  go_wp2_with fail
  refine (around_any n 13 _ h0 h1 (by omega) (by omega)).mono ?_
  rintro e w1 ⟨k, hk, hk2, rfl, rfl⟩
  have hkl : kindsW.length = 13 := rfl
  obtain ⟨x, hx⟩ : ∃ x, kindsW[k]? = some x := ⟨_, List.getElem?_eq_getElem (by omega)⟩
  have hc := hB.cell k (.int .i64 x) (by
    have e : ([.int .i64 101, .int .i64 105, .int .i64 107, .int .i64 109, .int .i64 111, .int .i64 113, .int .i64 115, .int .i64 117, .int .i64 119, .int .i64 121, .int .i64 123, .int .i64 125, .int .i64 127] : List Value) = kindsW.map (Value.int .i64) := rfl
    rw [e, List.getElem?_map, hx]; rfl)
  have hres : kindB n = x := by
    unfold kindB
    have : (up0 n % 13).toNat = k := by have := hk.out; omega
    rw [this, hx]; rfl
  have HRES := Lib.hid hres
  generalize w.alloc (.cells #[.int .i64 101, .int .i64 105, .int .i64 107, .int .i64 109, .int .i64 111, .int .i64 113, .int .i64 115, .int .i64 117, .int .i64 119, .int .i64 121, .int .i64 123, .int .i64 125, .int .i64 127] 3) = W at hc hb
  have k0 : (0 : Int) ≤ k := by omega
  have k1 : (k : Int) < 13 := by omega
  have HB := Lib.hid hb
  clear hB hx hres hb
  go_wp2
  go_ret
  exact ⟨by rw [HRES.out]; rfl, HB.out⟩

theorem tShort_any (l : List UInt8) (most : Nat) (w : World) (hl : l.length ≤ 9223372036854775807) (hm : most ≤ 1048576) :
    Calls Try.prog 29 #[.string (st l), .int .i64 most] w fun e w' => e = .returned (.string (st (l.take most))) ∧ w = w' := by
  by_cases h : most < l.length
  · have hx : (st l).extract 0 most = st (l.take most) := by
      apply ByteArray.ext
      simp [st, List.extract_eq_take_drop]
    generalize l.take most = q at hx
    go_enter Try.func29, Try.ntmps29
    go_wp2
    go_ret
    exact ⟨rfl, rfl⟩
  · have e : l.take most = l := List.take_of_length_le (by omega)
    rw [e]
    clear e
    go_enter Try.func29, Try.ntmps29
    go_wp2
    go_ret
    exact ⟨rfl, rfl⟩
end Go.Proofs.Ytoplkglnjgllnaa
