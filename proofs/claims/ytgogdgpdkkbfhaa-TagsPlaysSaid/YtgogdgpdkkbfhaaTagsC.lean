/-
  Layer 22: lives, the law TagsNews.
-/
import Derived.Test.YtgogdgpdkkbfhaaTagsB
namespace Go.Proofs.Ytgogdgpdkkbfhaa
open Go.RowKit
set_option linter.unusedVariables false

theorem placeL_none {ts : List Int} {tag : Int} (h : tag ∉ ts) : placeL ts tag = -1 := by
  unfold placeL
  rw [if_neg]
  intro h1
  have h2 := List.findIdx_getElem (p := (· == tag)) (xs := ts) (w := h1)
  exact h (by have h3 : ts[ts.findIdx (· == tag)] = tag := by simpa using h2
              rw [← h3]; exact List.getElem_mem h1)
theorem placeL_some {ts : List Int} {tag : Int} (h : tag ∈ ts) : 0 ≤ placeL ts tag := by
  unfold placeL
  rw [if_pos (List.findIdx_lt_length_of_exists ⟨tag, h, by simp⟩)]
  omega
theorem TagsAre.nil (rows : List (List Value)) : TagsAre rows 0 [] := ⟨rfl, fun i t h => by simp at h⟩
theorem TagsAre.snoc {rows : List (List Value)} {n : Nat} {ts : List Int} (h : TagsAre rows n ts) (hn : n < rows.length) (r : List Value) (tag : Int) (hr : r[1]? = some (.int .i64 tag)) : TagsAre (rows.set n r) (n + 1) (ts ++ [tag]) := by
  refine ⟨by simp [h.1], fun i t ht => ?_⟩
  rcases Nat.lt_or_ge i ts.length with hi | hi
  · rw [List.getElem?_append_left hi] at ht
    obtain ⟨q, hq, hq2⟩ := h.2 i t ht
    exact ⟨q, by rw [List.getElem?_set_ne (by have := h.1; omega)]; exact hq, hq2⟩
  · rw [List.getElem?_append_right hi] at ht
    have hi0 : i - ts.length = 0 := by
      rcases Nat.eq_zero_or_pos (i - ts.length) with h' | h'
      · exact h'
      · rw [List.getElem?_eq_none (by simp; omega)] at ht; cases ht
    rw [hi0] at ht
    simp at ht
    subst ht
    have : i = n := by have := h.1; omega
    subst this
    exact ⟨r, by rw [List.getElem?_set_self hn], hr⟩

theorem askZ_zero (w : World) : (zeroValue 32).run Try.prog w = .ok (.agg #[.int .i64 0, .int .i64 0, .int .i64 0, .int .i64 0, .int .i64 0, .int .i64 0, .int .i64 0, .int .i64 0, .int .i64 0, .int .i64 0, .string ByteArray.empty, .slice none 0 0, .int .i64 0, .slice none 0 0]) w := by kernel_rfl

/-- Put of a request that has but a type and a tag. -/
theorem put_bare (g : Nat) (rows : List (List Value)) (n most : Nat) (ts : List Int) (kind tag : Int) (w : World) (h : TG w g rows n most) (ht : TagsAre rows n ts) :
    Calls Try.prog 10 #[.pointer (some ⟨g, 0, none⟩), .agg #[.int .i64 kind, .int .i64 tag, .int .i64 0, .int .i64 0, .int .i64 0, .int .i64 0, .int .i64 0, .int .i64 0, .int .i64 0, .int .i64 0, .string ByteArray.empty, .slice none 0 0, .int .i64 0, .slice none 0 0]] w fun e w' =>
      (tag ∈ ts ∧ e = .returned (.int .i64 7) ∧ Below w.heap.size w w') ∨ (tag ∉ ts ∧ most ≤ n ∧ e = .returned (.int .i64 5) ∧ Below w.heap.size w w') ∨
      (tag ∉ ts ∧ n < most ∧ e = .returned (.int .i64 0) ∧ Keeps (Is g) w w' ∧ ∃ rows', TG w' g rows' (n + 1) most ∧ TagsAre rows' (n + 1) (ts ++ [tag])) := by
  refine (put_any g rows n most ts tag (.int .i64 kind) (.int .i64 0) (.int .i64 0) (.int .i64 0) (.int .i64 0) (.int .i64 0) (.int .i64 0) (.int .i64 0) (.int .i64 0) (.string ByteArray.empty) (.int .i64 0) none 0 0 [] none 0 0 [] w h ht (by simp [Value.oneCell']) RdV.nil (by simp) (by omega) RdB.nil (by omega)).mono ?_
  rintro e w' (⟨h1, h2, h3⟩ | ⟨h1, h2, h3, h4⟩ | ⟨h1, h2, h3, A', n', c', nm, Ad, nd, cd, ld, _, _, _, _, hT, hK⟩)
  · exact .inl ⟨Classical.byContradiction fun hn => by rw [placeL_none hn] at h1; omega, h2, h3⟩
  · exact .inr (.inl ⟨fun hm => h1 (placeL_some hm), h2, h3, h4⟩)
  · exact .inr (.inr ⟨fun hm => h1 (placeL_some hm), h2, h3, hK, _, hT, ht.snoc (by rw [h.1]; have := h.2.2.2.1; omega) _ tag rfl⟩)

set_option maxRecDepth 100000 in
set_option maxHeartbeats 4000000 in
theorem tlives_any (w : World) : Calls Try.prog 11 #[] w fun e w' => e = .returned (.bool true) ∧ Below w.heap.size w w' := by
  have hz := askZ_zero
  go_enter Try.func11, Try.ntmps11
  go_wp2_with fail
  refine (new_any 1 _ (by omega) (by omega)).mono ?_
  rintro e w1 ⟨rfl, hT1, hb1⟩
  have HT1 := Lib.hid hT1
  clear hT1
  go_wp2_with fail
  refine (put_bare w.heap.size rows0 0 1 [] 120 3 _ HT1.out (TagsAre.nil _)).mono ?_
  rintro e w2 (⟨h, _⟩ | ⟨_, h, _⟩ | ⟨_, _, rfl, hK2, rows2, hT2, hA2⟩)
  · simp at h
  · omega
  have HT2 := Lib.hid hT2
  have HA2 := Lib.hid hA2
  clear hT2 hA2
  go_wp2_with fail
  refine (put_bare w.heap.size rows2 1 1 [3] 124 3 _ HT2.out HA2.out).mono ?_
  rintro e w3 (⟨_, rfl, hb3⟩ | ⟨h, _⟩ | ⟨h, _⟩)
  · have HT3 := Lib.hid (HT2.out.up hb3)
    go_wp2_with fail
    refine (put_bare w.heap.size rows2 1 1 [3] 120 4 _ HT3.out HA2.out).mono ?_
    rintro e w4 (⟨h, _⟩ | ⟨_, _, rfl, hb4⟩ | ⟨_, h, _⟩)
    · simp at h
    · go_wp2
      go_ret
      have hs1 := HT1.out.lt
      exact ⟨rfl, (hb1.trans (hK2.is (Nat.le_refl _) (Nat.le_of_lt hs1))).trans ((Up.trans hb3 hb4).mono (by have := hK2.size; omega))⟩
    · omega
  · simp at h
  · simp at h

/-- The inner loop's relation. -/
def NwRel (w0 : World) (g m : Nat) (v : Value) (wr : World) : Prop :=
  ∃ (k : Nat) (rows : List (List Value)), k ≤ 9 ∧ v = .int .i64 k ∧ TG wr g rows (min k m) m ∧ TagsAre rows (min k m) ((List.range (min k m)).map fun j : Nat => (j : Int)) ∧ Below w0.heap.size w0 wr

set_option maxRecDepth 100000 in
set_option maxHeartbeats 4000000 in
theorem tagsNews_walk (most : Int) (w : World) (b0 : -9223372036854775808 ≤ most) (t0 : most ≤ 9223372036854775807) :
    Calls Try.prog 3 #[.int .i64 most] w fun e w' => e = .returned (.bool true) ∧ Below w.heap.size w w' := by
  have hz := askZ_zero
  go_enter Try.func3, Try.ntmps3
  go_wp2_with fail
  refine (around_any most 11 _ b0 t0 (by omega) (by omega)).mono ?_
  rintro e w' ⟨kk, hkk, hk11, rfl, rfl⟩
  have hB := Blk.new w 3 [.int .i64 most, .int .i64 kk]
  have hall : Below w.heap.size w (w.alloc (.cells #[.int .i64 most, .int .i64 kk] 3)) := (Below.refl _ _).alloc (Nat.le_refl _) _
  have hcells : ∀ j, j < 2 → ∃ o : Int, (w.alloc (.cells #[.int .i64 most, .int .i64 kk] 3)).cell? ⟨w.heap.size, j, none⟩ = some (.int .i64 o) := by
    intro j hj
    match j, hj with
    | 0, _ => exact ⟨most, hB.cell 0 _ rfl⟩
    | 1, _ => exact ⟨kk, hB.cell 1 _ rfl⟩
  clear hB
  go_wp2
  generalize w.alloc (.cells #[.int .i64 most, .int .i64 kk] 3) = wz at hall hcells
  have HC := Lib.hid hcells
  clear hcells
  go_loopw [4] (fun i wr => RoundRel 2 wz i wr) (fun i _ => 2 - (intOf i).toNat)
  case atStart => exact ⟨0, by omega, rfl, Below.refl _ _⟩
  case round =>
    obtain ⟨i, hi, rfl, hbi⟩ := hrel
    by_cases hlti : i < 2
    · obtain ⟨m, hm⟩ := HC.out i hlti
      have ca := cell_later hbi hm
      have hi2 : (i : Int) < 2 := by omega
      have hi0 : (0 : Int) ≤ i := by omega
      by_cases hin : 1 ≤ m ∧ m ≤ 8
      · obtain ⟨mn, rfl⟩ : ∃ mn : Nat, m = mn := ⟨m.toNat, by omega⟩
        have hm1 : 1 ≤ mn := by omega
        have hm8 : mn ≤ 8 := by omega
        have him1 : (1 : Int) ≤ mn := by omega
        have him8 : (mn : Int) ≤ 8 := by omega
        clear hin
        go_wp2_with fail
        refine (new_any mn _ hm1 hm8).mono ?_
        rintro e w2 ⟨rfl, hT2, hb2⟩
        have HT2 := Lib.hid hT2
        have cb := cell_later hb2 ca
        obtain ⟨g, hg⟩ : ∃ g, g = wr.heap.size := ⟨_, rfl⟩
        rw [← hg] at HT2 ⊢
        have hg2 : g < w2.heap.size := HT2.out.lt
        have hgle : wr.heap.size ≤ g := by omega
        have hgw : w.heap.size ≠ g := by have := hall.size; have := hbi.size; have h7 := World.block_lt_of_cell? wz _ hm; have h8 : w.heap.size < wz.heap.size := h7; omega
        clear hT2 ca hg
        go_wp2
        go_loopw [8] (fun k wr' => NwRel wr g mn k wr') (fun k _ => 9 - (intOf k).toNat)
        case atStart => exact ⟨0, rows0, by omega, rfl, by simpa using HT2.out, by simpa using TagsAre.nil rows0, hb2⟩
        case round =>
          obtain ⟨k, rows, hk, rfl, hT, hA, hbk⟩ := hrel
          have cc := cell_later (Up.trans hbi hbk) hm
          have HT := Lib.hid hT
          have HA := Lib.hid hA
          clear hT hA
          by_cases hk9 : k < 9
          · have hki : (k : Int) < 9 := by omega
            go_wp2_with fail
            refine (put_bare g rows (min k mn) mn _ 120 k _ HT.out HA.out).mono ?_
            rintro e w3 (⟨h, _⟩ | ⟨_, hf, rfl, hb3⟩ | ⟨_, hf, rfl, hK3, rows3, hT3, hA3⟩)
            · simp at h; omega
            · have hkm : ¬ (k : Int) < mn := by omega
              have cd := cell_later hb3 cc
              have he : min (k + 1) mn = min k mn := by omega
              go_wp2
              go_roundw
              case rel => exact ⟨k + 1, rows, by omega, by go_num, by rw [he]; exact HT.out.up hb3, by rw [he]; exact HA.out, Up.trans hbk hb3⟩
              case measure => simp [intOf]; omega
            · have hkm : (k : Int) < mn := by omega
              have cd := hK3.cell cc hgw
              have he : min (k + 1) mn = min k mn + 1 := by omega
              have he2 : min k mn = k := by omega
              go_wp2
              go_roundw
              case rel => exact ⟨k + 1, rows3, by omega, by go_num, by rw [he]; exact hT3, by rw [he, List.range_succ, List.map_append]; rw [he2] at hA3 ⊢; simpa using hA3, hbk.trans (hK3.is hgle (Nat.le_of_lt HT.out.lt))⟩
              case measure => simp [intOf]; omega
          · have hki : ¬ (k : Int) < 9 := by omega
            go_wp2
            go_roundw
            case rel => exact ⟨i + 1, by omega, by go_num, Up.trans hbi hbk⟩
            case measure => simp [intOf]; omega
      · have hbad : m < 1 ∨ 8 < m := by omega
        go_wp2_with fail
        refine (new_bad m _ hbad).mono ?_
        rintro e w2 ⟨rfl, rfl⟩
        rcases hbad with hlo | hhi
        · go_wp2
          refine wp_loop_rounds 1 ?_
          rw [rounds_succ]
          go_wp2
          go_roundw
          case rel => exact ⟨i + 1, by omega, by go_num, hbi⟩
          case measure => simp [intOf]; omega
        · have hlo : (1 : Int) ≤ m := by omega
          have hhi' : ¬ m ≤ 8 := by omega
          go_wp2
          refine wp_loop_rounds 1 ?_
          rw [rounds_succ]
          go_wp2
          go_roundw
          case rel => exact ⟨i + 1, by omega, by go_num, hbi⟩
          case measure => simp [intOf]; omega
    · have hi2 : ¬ (i : Int) < 2 := by omega
      go_wp2_with fail
      refine (tlives_any _).mono ?_
      rintro e w9 ⟨rfl, hb9⟩
      go_wp2
      go_ret
      exact ⟨rfl, Up.trans hall (Up.trans hbi hb9)⟩
end Go.Proofs.Ytgogdgpdkkbfhaa
