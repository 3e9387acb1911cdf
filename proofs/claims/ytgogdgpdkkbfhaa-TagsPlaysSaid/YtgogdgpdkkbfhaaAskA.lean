/-
  Layer 17's helpers: which fields are laid; a type, a number of 32 bits, made of any.
-/
import Derived.Test.YtgogdgpdkkbfhaaVals
import Derived.Test.YtgogdgpdkkbfhaaFew
import Derived.Test.YtgogdgpdkkbfhaaPlan3
import Derived.Test.YtgogdgpdkkbfhaaBlk
import Derived.Test.YtgogdgpdkkbfhaaLawB
import Derived.Deep.CutBlock
namespace Go.Proofs.Ytgogdgpdkkbfhaa
open Go.RowKit
set_option linter.unusedVariables false
set_option linter.unusedSimpArgs false

def kindsT : List Int := [100, 104, 108, 110, 112, 114, 116, 118, 120, 122, 124, 126]
def fieldsT : List (List UInt8) := [[122, 110], [102, 110], [116], [102, 119, 108], [102, 109], [102, 110, 112, 109], [102, 111, 99], [102, 111, 100], [102], [102], [102], [102, 115, 110]]
/-- The fields that are laid of a type. -/
def fieldsL (k : Int) : List UInt8 := (fieldsT[kindsT.findIdx (· == k)]?).getD []
def hasL (k : Int) (f : UInt8) : Bool := (fieldsL k).contains f
/-- A type, made of any number. -/
def kindA (n : Int) : Int := (kindsT[(up0 n % 12).toNat]?).getD 0

def FdRel (w : World) (k : Int) (i : Value) (wr : World) : Prop := ∃ j : Nat, j ≤ 12 ∧ i = .int .i64 j ∧ wr = w ∧ j ≤ kindsT.findIdx (· == k)

theorem sv_fields : sv fieldsT = [.string (st [122, 110]), .string (st [102, 110]), .string (st [116]), .string (st [102, 119, 108]), .string (st [102, 109]), .string (st [102, 110, 112, 109]), .string (st [102, 111, 99]), .string (st [102, 111, 100]), .string (st [102]), .string (st [102]), .string (st [102]), .string (st [102, 115, 110])] := rfl

set_option maxRecDepth 100000 in
set_option maxHeartbeats 2000000 in
theorem fields_any (k : Int) (w : World) : Calls Try.prog 41 #[.int .i64 k] w fun e w' => e = .returned (.string (st (fieldsL k))) ∧ Below w.heap.size w w' := by
  have hB1 := Blk.new w 3 (kindsT.map (Value.int .i64))
  have hB2 := Blk.new (w.alloc (.cells (kindsT.map (Value.int .i64)).toArray 3)) 9 (sv fieldsT)
  have hb : Below w.heap.size w ((w.alloc (.cells (kindsT.map (Value.int .i64)).toArray 3)).alloc (.cells (sv fieldsT).toArray 9)) := ((Below.refl _ _).alloc (Nat.le_refl _) _).alloc (by simp) _
  have hB1' := hB1.alloc (.cells (sv fieldsT).toArray 9)
  have hs : (w.alloc (.cells (kindsT.map (Value.int .i64)).toArray 3)).heap.size = w.heap.size + 1 := by simp
  rw [hs] at hB2
  obtain ⟨W, hW⟩ : ∃ W, W = (w.alloc (.cells (kindsT.map (Value.int .i64)).toArray 3)).alloc (.cells (sv fieldsT).toArray 9) := ⟨_, rfl⟩
  rw [← hW] at hB1' hB2 hb
  have HB1 := Lib.hid hB1'
  have HB2 := Lib.hid hB2
  have HB := Lib.hid hb
  have hW2 : W = (w.alloc (.cells #[.int .i64 100, .int .i64 104, .int .i64 108, .int .i64 110, .int .i64 112, .int .i64 114, .int .i64 116, .int .i64 118, .int .i64 120, .int .i64 122, .int .i64 124, .int .i64 126] 3)).alloc (.cells #[.string ⟨#[122, 110]⟩, .string ⟨#[102, 110]⟩, .string ⟨#[116]⟩, .string ⟨#[102, 119, 108]⟩, .string ⟨#[102, 109]⟩, .string ⟨#[102, 110, 112, 109]⟩, .string ⟨#[102, 111, 99]⟩, .string ⟨#[102, 111, 100]⟩, .string ⟨#[102]⟩, .string ⟨#[102]⟩, .string ⟨#[102]⟩, .string ⟨#[102, 115, 110]⟩] 9) := hW
  clear hB1 hB2 hb hB1' hW hs
  go_enter Try.func41, Try.ntmps41
  go_wp2
  rw [← hW2]
  clear hW2
  go_loopw [5] (fun i wr => FdRel W k i wr) (fun i _ => 12 - (intOf i).toNat)
  case atStart => exact ⟨0, by omega, rfl, rfl, by omega⟩
  case round =>
    obtain ⟨j, hj, rfl, rfl, hf⟩ := hrel
    by_cases hlt : j < 12
    · have j0 : (0 : Int) ≤ j := by omega
      have j1 : (j : Int) < 12 := by omega
      have hkl : kindsT.length = 12 := rfl
      have hjl : j < kindsT.length := by omega
      obtain ⟨x, hx⟩ : ∃ x, kindsT[j]? = some x := ⟨_, List.getElem?_eq_getElem hjl⟩
      have hfl : fieldsT.length = 12 := rfl
      obtain ⟨y, hy⟩ : ∃ y, fieldsT[j]? = some y := ⟨_, List.getElem?_eq_getElem (by omega)⟩
      have kc := HB1.out.cell j (.int .i64 x) (by rw [List.getElem?_map, hx]; rfl)
      have kd := HB2.out.cell j (.string (st y)) (by rw [sv_at, hy]; rfl)
      have hxe : kindsT[j] = x := by rw [List.getElem?_eq_getElem hjl] at hx; exact Option.some.inj hx
      by_cases he : x = k
      · have hidx : kindsT.findIdx (· == k) = j := Nat.le_antisymm (by
          rcases Nat.lt_or_ge j (kindsT.findIdx (· == k)) with h2 | h2
          · have h3 := List.not_of_lt_findIdx h2
            rw [hxe] at h3
            simp [he] at h3
          · exact h2) hf
        have hres : fieldsL k = y := by unfold fieldsL; rw [hidx, hy]; rfl
        have HRES := Lib.hid hres
        have heq : (x == k) = true := by simpa using he
        subst he
        clear hx hres hidx hxe hy
        go_wp2
        go_ret
        exact ⟨by rw [HRES.out]; rfl, HB.out⟩
      · have heq : (x == k) = false := by simpa using he
        have hnx : j + 1 ≤ kindsT.findIdx (· == k) := by
          rcases Nat.lt_or_ge j (kindsT.findIdx (· == k)) with h2 | h2
          · omega
          · have h3 : kindsT.findIdx (· == k) = j := by omega
            have h4 := List.findIdx_getElem (p := (· == k)) (xs := kindsT) (w := by omega)
            simp only [h3, hxe] at h4
            exact absurd (by simpa using h4) he
        have HNX := Lib.hid hnx
        clear hx hnx kd hxe hy
        go_wp2
        go_roundw
        case rel => exact ⟨j + 1, by omega, by go_num, rfl, HNX.out⟩
        case measure => simp [intOf]; omega
    · obtain rfl : j = 12 := by omega
      have hres : fieldsL k = [] := by
        unfold fieldsL
        rw [List.getElem?_eq_none (by have : fieldsT.length = 12 := rfl; omega)]; rfl
      have HRES := Lib.hid hres
      clear hres
      go_wp2
      go_ret
      exact ⟨by rw [HRES.out]; rfl, HB.out⟩

def HsRel (w : World) (l : List UInt8) (f : UInt8) (i : Value) (wr : World) : Prop := ∃ j : Nat, j ≤ l.length ∧ i = .int .i64 j ∧ wr = w ∧ f ∉ l.take j
theorem fieldsL_len (k : Int) : (fieldsL k).length ≤ 4 := by
  unfold fieldsL
  have : ∀ l ∈ fieldsT, l.length ≤ 4 := by decide
  cases h : fieldsT[kindsT.findIdx (· == k)]? with
  | none => simp
  | some l => exact this l (List.mem_of_getElem? h)

set_option maxHeartbeats 2000000 in
theorem has_any (k : Int) (f : UInt8) (w : World) : Calls Try.prog 40 #[.int .i64 k, .int .u8 (f.toNat : Int)] w fun e w' => e = .returned (.bool (hasL k f)) ∧ Below w.heap.size w w' := by
  go_enter Try.func40, Try.ntmps40
  go_wp2_with fail
  refine (fields_any k _).mono ?_
  rintro e w1 ⟨rfl, hb⟩
  have hl4 := fieldsL_len k
  obtain ⟨l, hl⟩ : ∃ l, l = fieldsL k := ⟨_, rfl⟩
  have HH : Hid (hasL k f = l.contains f) := Lib.hid (by rw [hl]; rfl)
  rw [← hl] at hl4 ⊢
  clear hl
  have hsz : (st l).size = l.length := st_size l
  have HB := Lib.hid hb
  clear hb
  go_wp2
  go_loopw [6] (fun i wr => HsRel w1 l f i wr) (fun i _ => l.length - (intOf i).toNat)
  case atStart => exact ⟨0, by omega, rfl, rfl, by simp⟩
  case round =>
    obtain ⟨j, hj, rfl, rfl, hf⟩ := hrel
    by_cases hlt : j < l.length
    · have j0 : (0 : Int) ≤ j := by omega
      have j1 : (j : Int) < l.length := by omega
      obtain ⟨x, hx, hxm, htk⟩ : ∃ x : UInt8, (∀ h : j < (st l).size, (st l)[j]'h = x) ∧ x ∈ l ∧ l.take (j + 1) = l.take j ++ [x] :=
        ⟨l[j], fun h => rfl, List.getElem_mem hlt, by rw [List.take_add_one, List.getElem?_eq_getElem hlt]; rfl⟩
      by_cases he : x = f
      · have hc : l.contains f = true := by rw [← he]; simpa using hxm
        have HC := Lib.hid hc
        have t0 : ((x.toNat : Int) == (f.toNat : Int)) = true := by rw [he]; simp
        have t1 : (x.toNat : Int) = (f.toNat : Int) := by rw [he]
        clear hc hxm htk he
        go_wp2
        go_ret
        exact ⟨by rw [HH.out, HC.out]; rfl, HB.out⟩
      · have t0 : ((x.toNat : Int) == (f.toNat : Int)) = false := by
          rw [beq_eq_false_iff_ne]; intro e; apply he; apply UInt8.toNat_inj.1; omega
        have t1 : ¬ (x.toNat : Int) = (f.toNat : Int) := by intro e; apply he; apply UInt8.toNat_inj.1; omega
        have hnf : f ∉ l.take (j + 1) := by rw [htk, List.mem_append]; rintro (h | h); exact hf h; simp at h; exact he h.symm
        have HNF := Lib.hid hnf
        clear hxm htk he hnf
        go_wp2
        go_roundw
        case rel => exact ⟨j + 1, by omega, by go_num, rfl, HNF.out⟩
        case measure => simp [intOf]; omega
    · obtain rfl : j = l.length := by omega
      rw [List.take_length] at hf
      have hc : l.contains f = false := by simpa using hf
      have HC := Lib.hid hc
      clear hc
      go_wp2
      go_ret
      exact ⟨by rw [HH.out, HC.out]; rfl, HB.out⟩

def KeepPost (k : Int) (f : UInt8) (n : Int) (w : World) (e : Ending) (w' : World) : Prop := ∃ v, Hid (v = if hasL k f then n else 0) ∧ e = .returned (.int .i64 v) ∧ Below w.heap.size w w'
theorem keep_any (k : Int) (f : UInt8) (n : Int) (w : World) : Calls Try.prog 39 #[.int .i64 k, .int .u8 (f.toNat : Int), .int .i64 n] w (KeepPost k f n w) := by
  go_enter Try.func39, Try.ntmps39
  go_wp2_with fail
  refine (has_any k f _).mono ?_
  rintro e w1 ⟨rfl, hb⟩
  have HB := Lib.hid hb
  clear hb
  cases hh : hasL k f with
  | true =>
    have HH := Lib.hid hh
    clear hh
    go_wp2
    go_ret
    exact ⟨n, Lib.hid (by rw [HH.out]; rfl), rfl, HB.out⟩
  | false =>
    have HH := Lib.hid hh
    clear hh
    go_wp2
    go_ret
    exact ⟨0, Lib.hid (by rw [HH.out]; rfl), rfl, HB.out⟩

theorem low_any (n : Int) (w : World) (h0 : -9223372036854775808 ≤ n) (h1 : n ≤ 9223372036854775807) : Calls Try.prog 29 #[.int .i64 n] w fun e w' => ∃ k : Nat, Hid ((k : Int) = up0 n % 4294967296) ∧ k < 4294967296 ∧ e = .returned (.int .i64 k) ∧ w = w' := by
  go_enter Try.func29, Try.ntmps29
  go_wp2_with fail
  refine (around_any n 4294967296 _ h0 h1 (by omega) (by omega)).mono ?_
  rintro e w1 ⟨k, hk, hk2, rfl, rfl⟩
  go_wp2
  go_ret
  exact ⟨k, hk, hk2, rfl, rfl⟩

theorem kind_any (n : Int) (w : World) (h0 : -9223372036854775808 ≤ n) (h1 : n ≤ 9223372036854775807) : Calls Try.prog 28 #[.int .i64 n] w fun e w' => e = .returned (.int .i64 (kindA n)) ∧ Below w.heap.size w w' := by
  have hB := Blk.new w 3 [.int .i64 100, .int .i64 104, .int .i64 108, .int .i64 110, .int .i64 112, .int .i64 114, .int .i64 116, .int .i64 118, .int .i64 120, .int .i64 122, .int .i64 124, .int .i64 126]
  have hb : Below w.heap.size w (w.alloc (.cells #[.int .i64 100, .int .i64 104, .int .i64 108, .int .i64 110, .int .i64 112, .int .i64 114, .int .i64 116, .int .i64 118, .int .i64 120, .int .i64 122, .int .i64 124, .int .i64 126] 3)) := (Below.refl _ _).alloc (Nat.le_refl _) _
  go_enter Try.func28, Try.ntmps28
  go_wp2_with fail
  refine (around_any n 12 _ h0 h1 (by omega) (by omega)).mono ?_
  rintro e w1 ⟨k, hk, hk2, rfl, rfl⟩
  have hkl : kindsT.length = 12 := rfl
  obtain ⟨x, hx⟩ : ∃ x, kindsT[k]? = some x := ⟨_, List.getElem?_eq_getElem (by omega)⟩
  have hc := hB.cell k (.int .i64 x) (by
    have e : ([.int .i64 100, .int .i64 104, .int .i64 108, .int .i64 110, .int .i64 112, .int .i64 114, .int .i64 116, .int .i64 118, .int .i64 120, .int .i64 122, .int .i64 124, .int .i64 126] : List Value) = kindsT.map (Value.int .i64) := rfl
    rw [e, List.getElem?_map, hx]; rfl)
  have hres : kindA n = x := by
    unfold kindA
    have : (up0 n % 12).toNat = k := by have := hk.out; omega
    rw [this, hx]; rfl
  have HRES := Lib.hid hres
  generalize w.alloc (.cells #[.int .i64 100, .int .i64 104, .int .i64 108, .int .i64 110, .int .i64 112, .int .i64 114, .int .i64 116, .int .i64 118, .int .i64 120, .int .i64 122, .int .i64 124, .int .i64 126] 3) = W at hc hb
  have k0 : (0 : Int) ≤ k := by omega
  have k1 : (k : Int) < 12 := by omega
  have HB := Lib.hid hb
  clear hB hx hres hb
  go_wp2
  go_ret
  exact ⟨by rw [HRES.out]; rfl, HB.out⟩

theorem short_any (l : List UInt8) (most : Nat) (w : World) (hl : l.length ≤ 9223372036854775807) (hm : most ≤ 1048576) :
    Calls Try.prog 30 #[.string (st l), .int .i64 most] w fun e w' => e = .returned (.string (st (l.take most))) ∧ w = w' := by
  by_cases h : most < l.length
  · have hx : (st l).extract 0 most = st (l.take most) := by
      apply ByteArray.ext
      simp [st, List.extract_eq_take_drop]
    generalize l.take most = q at hx
    go_enter Try.func30, Try.ntmps30
    go_wp2
    go_ret
    exact ⟨rfl, rfl⟩
  · have e : l.take most = l := List.take_of_length_le (by omega)
    rw [e]
    clear e
    go_enter Try.func30, Try.ntmps30
    go_wp2
    go_ret
    exact ⟨rfl, rfl⟩
end Go.Proofs.Ytgogdgpdkkbfhaa
