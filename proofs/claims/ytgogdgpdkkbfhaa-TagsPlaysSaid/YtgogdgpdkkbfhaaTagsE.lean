/-
  Layer 22: Pick, Flush, Len, the law TagsFlushes.
-/
import Derived.Test.YtgogdgpdkkbfhaaTagsD
namespace Go.Proofs.Ytgogdgpdkkbfhaa
open Go.RowKit
set_option linter.unusedVariables false
set_option linter.unusedSimpArgs false

theorem row14 (r : List Value) (h : r.length = 14) : ∃ x0 x1 x2 x3 x4 x5 x6 x7 x8 x9 x10 x11 x12 x13, r = [x0, x1, x2, x3, x4, x5, x6, x7, x8, x9, x10, x11, x12, x13] :=
  match r, h with
  | [x0, x1, x2, x3, x4, x5, x6, x7, x8, x9, x10, x11, x12, x13], _ => ⟨x0, x1, x2, x3, x4, x5, x6, x7, x8, x9, x10, x11, x12, x13, rfl⟩
/-- All cells are single ones. -/
def AllOne (rows : List (List Value)) : Prop := ∀ r ∈ rows, ∀ v ∈ r, v.oneCell' = true
theorem AllOne.zero : AllOne rows0 := fun r hr => by
  rw [List.eq_of_mem_replicate (show r ∈ List.replicate 8 askZ from hr)]
  exact askZ_one
theorem AllOne.set {rows : List (List Value)} (h : AllOne rows) (n : Nat) (xs : List Value) (hx : ∀ v ∈ xs, v.oneCell' = true) : AllOne (rows.set n xs) := fun r hr => by
  rcases List.mem_or_eq_of_mem_set hr with h' | rfl
  · exact h r h'
  · exact hx
theorem AllOne.taken {rows rows' : List (List Value)} (h : AllOne rows) (h' : ∀ r ∈ rows', r ∈ rows ∨ r = askZ) : AllOne rows' := fun r hr => by
  rcases h' r hr with h2 | rfl
  · exact h r h2
  · exact askZ_one
theorem TagsAre.erase {rows rows' : List (List Value)} {q k : Nat} {ts : List Int} (h : TagsAre rows (q + 1) ts) (hk : k ≤ q) (he : rows'.take q = (rows.take (q + 1)).eraseIdx k) : TagsAre rows' q (ts.eraseIdx k) := by
  have hl : (ts.eraseIdx k).length = q := by rw [List.length_eraseIdx, if_pos (by rw [h.1]; omega), h.1]; omega
  refine ⟨hl, fun i t ht => ?_⟩
  have hi : i < q := by rw [← hl]; exact (List.getElem?_eq_some_iff.1 ht).1
  have hrow : rows'[i]? = ((rows.take (q + 1)).eraseIdx k)[i]? := by rw [← he, List.getElem?_take, if_pos hi]
  rw [List.getElem?_eraseIdx] at ht hrow
  by_cases hik : i < k
  · rw [if_pos hik] at ht hrow
    obtain ⟨r, hr, hv⟩ := h.2 i t ht
    refine ⟨r, ?_, hv⟩
    rw [hrow, List.getElem?_take, if_pos (by omega)]
    exact hr
  · rw [if_neg hik] at ht hrow
    obtain ⟨r, hr, hv⟩ := h.2 (i + 1) t ht
    refine ⟨r, ?_, hv⟩
    rw [hrow, List.getElem?_take, if_pos (by omega)]
    exact hr

theorem len_any (g : Nat) (rows : List (List Value)) (n most : Nat) (w : World) (h : TG w g rows n most) :
    Calls Try.prog 16 #[.pointer (some ⟨g, 0, none⟩)] w fun e w' => e = .returned (.int .i64 n) ∧ w = w' := by
  have kn := h.n_at
  clear h
  go_enter Try.func16, Try.ntmps16
  go_wp2
  go_ret
  exact ⟨rfl, rfl⟩

/-- What Pick leaves. -/
def PickPost (g : Nat) (rows : List (List Value)) (q most k : Nat) (r : Array Value) (w : World) (e : Ending) (w' : World) : Prop :=
  e = .returned (.tuple #[.agg r, .int .i64 0]) ∧ ∃ rows', Hid (rows'.take q = (rows.take (q + 1)).eraseIdx k) ∧ Hid (∀ r ∈ rows', r ∈ rows ∨ r = askZ) ∧ TG w' g rows' q most ∧ Keeps (Is g) w w'

set_option maxRecDepth 100000 in
set_option maxHeartbeats 4000000 in
theorem pick_any (g : Nat) (rows : List (List Value)) (n q most k : Nat) (x0 x1 x2 x3 x4 x5 x6 x7 x8 x9 x10 x11 x12 x13 : Value) (w : World) (h : TG w g rows n most) (hnq : n = q + 1) (hk : k ≤ q) (hr : rows[k]? = some [x0, x1, x2, x3, x4, x5, x6, x7, x8, x9, x10, x11, x12, x13]) (h1 : AllOne rows) :
    Calls Try.prog 13 #[.pointer (some ⟨g, 0, none⟩), .int .i64 k] w (PickPost g rows q most k #[x0, x1, x2, x3, x4, x5, x6, x7, x8, x9, x10, x11, x12, x13] w) := by
  have hz := askZ_zero
  have H := Lib.hid h
  have H1 := Lib.hid h1
  have HR := Lib.hid hr
  have hgl := h.lt
  have hb1 : Below w.heap.size w (w.alloc (.cells #[.int .i64 0, .int .i64 0, .int .i64 0, .int .i64 0, .int .i64 0, .int .i64 0, .int .i64 0, .int .i64 0, .int .i64 0, .int .i64 0, .string ByteArray.empty, .slice none 0 0, .int .i64 0, .slice none 0 0] 32)) := (Below.refl _ _).alloc (Nat.le_refl _) _
  have hB1 := Blk.new w 32 askZ
  unfold askZ at hB1
  have hT1 := h.up hb1
  have i0 : ¬ (k : Int) < 0 := by omega
  have i1 : ¬ (n : Int) ≤ k := by omega
  have HNQ := Lib.hid hnq
  have HK := Lib.hid hk
  clear h h1 hr hnq hk
  go_enter Try.func13, Try.ntmps13
  go_upto_region 1 with fail
  generalize w.alloc (.cells #[.int .i64 0, .int .i64 0, .int .i64 0, .int .i64 0, .int .i64 0, .int .i64 0, .int .i64 0, .int .i64 0, .int .i64 0, .int .i64 0, .string ByteArray.empty, .slice none 0 0, .int .i64 0, .slice none 0 0] 32) = w1 at hb1 hB1 hT1
  have kn := hT1.n_at
  have HB1 := Lib.hid hB1
  have HT1 := Lib.hid hT1
  clear hB1 hT1
  go_wp2_with fail
  refine (take_any g rows n q most k x0 x1 x2 x3 x4 x5 x6 x7 x8 x9 x10 x11 x12 x13 _ HT1.out HNQ.out HK.out HR.out H1.out).mono ?_
  rintro e w2 ⟨rfl, rows', hE, hM, hT2, hK2⟩
  have hg1 : ¬ Is g w.heap.size := by intro e; have : w.heap.size = g := e; omega
  have hZ2 := HB1.out.keeps hK2 hg1
  have hone : ∀ v ∈ ([x0, x1, x2, x3, x4, x5, x6, x7, x8, x9, x10, x11, x12, x13] : List Value), v.oneCell' = true := H1.out _ (List.mem_of_getElem? HR.out)
  have hB3 := hZ2.setRow [x0, x1, x2, x3, x4, x5, x6, x7, x8, x9, x10, x11, x12, x13]
  have hT3 := hT2.keeps (keeps_setRow w2 #[x0, x1, x2, x3, x4, x5, x6, x7, x8, x9, x10, x11, x12, x13]) (show ¬ Is w.heap.size g by intro e; have : g = w.heap.size := e; omega)
  have hK3 := ((Keeps.of_below (G := Is g) hb1).trans hK2).more (keeps_setRow (g := w.heap.size) w2 #[x0, x1, x2, x3, x4, x5, x6, x7, x8, x9, x10, x11, x12, x13]) (fun k hk e => by have : k = w.heap.size := e; omega)
  have HT3 := Lib.hid hT3
  have HK3 := Lib.hid hK3
  have HB3 := Lib.hid hB3
  clear hT2 hK2 hT3 hK3 hB3 kn
  go_wp2_with (refine wpList_storeBlk rfl (.tmp 4) (.tmp 19) rfl rfl [x0, x1, x2, x3, x4, x5, x6, x7, x8, x9, x10, x11, x12, x13] rfl rfl (by kernel_rfl) hZ2 rfl hone ?_)
  have hB3 := HB3.out
  have kd0 := hB3.cell 0 _ rfl
  have kd1 := hB3.cell 1 _ rfl
  have kd2 := hB3.cell 2 _ rfl
  have kd3 := hB3.cell 3 _ rfl
  have kd4 := hB3.cell 4 _ rfl
  have kd5 := hB3.cell 5 _ rfl
  have kd6 := hB3.cell 6 _ rfl
  have kd7 := hB3.cell 7 _ rfl
  have kd8 := hB3.cell 8 _ rfl
  have kd9 := hB3.cell 9 _ rfl
  have kd10 := hB3.cell 10 _ rfl
  have kd11 := hB3.cell 11 _ rfl
  have kd12 := hB3.cell 12 _ rfl
  have kd13 := hB3.cell 13 _ rfl
  exact bodyPost_ret (v := .tuple #[.agg #[x0, x1, x2, x3, x4, x5, x6, x7, x8, x9, x10, x11, x12, x13], .int .i64 0]) (by simp [results, Try.results13, go_sem, kd0, kd1, kd2, kd3, kd4, kd5, kd6, kd7, kd8, kd9, kd10, kd11, kd12, kd13]) rfl ⟨rfl, rows', hE, hM, HT3.out, HK3.out⟩

/-- What Flush leaves. -/
def FlushPost (g : Nat) (rows : List (List Value)) (q most k : Nat) (w : World) (e : Ending) (w' : World) : Prop :=
  e = .returned (.bool true) ∧ ∃ rows', Hid (rows'.take q = (rows.take (q + 1)).eraseIdx k) ∧ Hid (∀ r ∈ rows', r ∈ rows ∨ r = askZ) ∧ TG w' g rows' q most ∧ Keeps (Is g) w w'

set_option maxRecDepth 100000 in
set_option maxHeartbeats 4000000 in
theorem flush_any (g : Nat) (rows : List (List Value)) (n q most k : Nat) (ts : List Int) (tag : Int) (w : World) (h : TG w g rows n most) (ht : TagsAre rows n ts) (hnq : n = q + 1) (hk : k ≤ q) (hp : placeL ts tag = k) (h1 : AllOne rows) :
    Calls Try.prog 17 #[.pointer (some ⟨g, 0, none⟩), .int .i64 tag] w (FlushPost g rows q most k w) := by
  obtain ⟨r, hr⟩ : ∃ r, rows[k]? = some r := ⟨rows[k]'(by rw [h.1]; have := h.2.2.1; have := h.2.2.2.1; omega), List.getElem?_eq_getElem _⟩
  obtain ⟨x0, x1, x2, x3, x4, x5, x6, x7, x8, x9, x10, x11, x12, x13, rfl⟩ := row14 r (h.2.1 r (List.mem_of_getElem? hr))
  have H := Lib.hid h
  have HT := Lib.hid ht
  have H1 := Lib.hid h1
  have HR := Lib.hid hr
  have HNQ := Lib.hid hnq
  have HK := Lib.hid hk
  have HP := Lib.hid hp
  have i0 : ¬ (k : Int) < 0 := by omega
  clear h h1 hr hnq hk hp ht
  go_enter Try.func17, Try.ntmps17
  go_wp2_with fail
  refine (place_any g rows n most ts tag _ H.out HT.out).mono ?_
  rintro e w1 ⟨rfl, rfl⟩
  rw [HP.out]
  go_wp2_with fail
  refine (take_any g rows n q most k x0 x1 x2 x3 x4 x5 x6 x7 x8 x9 x10 x11 x12 x13 _ H.out HNQ.out HK.out HR.out H1.out).mono ?_
  rintro e w2 ⟨rfl, rows', hE, hM, hT2, hK2⟩
  have HT2 := Lib.hid hT2
  have HK2 := Lib.hid hK2
  clear hT2 hK2
  go_wp2
  go_ret
  exact ⟨rfl, rows', hE, hM, HT2.out, HK2.out⟩

set_option maxHeartbeats 4000000 in
theorem flush_none (g : Nat) (rows : List (List Value)) (n most : Nat) (ts : List Int) (tag : Int) (w : World) (h : TG w g rows n most) (ht : TagsAre rows n ts) (hp : tag ∉ ts) :
    Calls Try.prog 17 #[.pointer (some ⟨g, 0, none⟩), .int .i64 tag] w fun e w' => e = .returned (.bool false) ∧ w = w' := by
  have H := Lib.hid h
  have HT := Lib.hid ht
  have HP := Lib.hid (placeL_none hp)
  clear h hp ht
  go_enter Try.func17, Try.ntmps17
  go_wp2_with fail
  refine (place_any g rows n most ts tag _ H.out HT.out).mono ?_
  rintro e w1 ⟨rfl, rfl⟩
  rw [HP.out]
  go_wp2
  go_ret
  exact ⟨rfl, rfl⟩

/-- Put of a request that has but a type and a tag, all cells kept single. -/
theorem put_bare2 (g : Nat) (rows : List (List Value)) (n most : Nat) (ts : List Int) (kind tag : Int) (w : World) (h : TG w g rows n most) (ht : TagsAre rows n ts) (ho : AllOne rows) (hnot : tag ∉ ts) (hroom : n < most) :
    Calls Try.prog 10 #[.pointer (some ⟨g, 0, none⟩), .agg #[.int .i64 kind, .int .i64 tag, .int .i64 0, .int .i64 0, .int .i64 0, .int .i64 0, .int .i64 0, .int .i64 0, .int .i64 0, .int .i64 0, .string ByteArray.empty, .slice none 0 0, .int .i64 0, .slice none 0 0]] w fun e w' =>
      e = .returned (.int .i64 0) ∧ Keeps (Is g) w w' ∧ ∃ rows', TG w' g rows' (n + 1) most ∧ TagsAre rows' (n + 1) (ts ++ [tag]) ∧ AllOne rows' := by
  refine (put_any g rows n most ts tag (.int .i64 kind) (.int .i64 0) (.int .i64 0) (.int .i64 0) (.int .i64 0) (.int .i64 0) (.int .i64 0) (.int .i64 0) (.int .i64 0) (.string ByteArray.empty) (.int .i64 0) none 0 0 [] none 0 0 [] w h ht (by simp [Value.oneCell']) RdV.nil (by simp) (by omega) RdB.nil (by omega)).mono ?_
  rintro e w' (⟨h1, h2, h3⟩ | ⟨h1, h2, h3, h4⟩ | ⟨h1, h2, h3, A', n', c', nm, Ad, nd, cd, ld, _, _, _, _, hT, hK⟩)
  · rw [placeL_none hnot] at h1; omega
  · omega
  · exact ⟨h3, hK, _, hT, ht.snoc (by rw [h.1]; have := h.2.2.2.1; omega) _ tag rfl, ho.set _ _ (by
      intro v hv
      simp only [List.mem_cons, List.not_mem_nil, or_false] at hv
      rcases hv with rfl | rfl | rfl | rfl | rfl | rfl | rfl | rfl | rfl | rfl | rfl | rfl | rfl | rfl <;> rfl)⟩

/-- The tags of n requests. -/
def tagsN (n : Nat) : List Int := (List.range n).map fun j : Nat => 100 + (j : Int)
/-- The tags from place i on, without that of place k. -/
def tagsL (n k i : Nat) : List Int := (List.range' i (k - i) ++ List.range' (max i (k + 1)) (n - max i (k + 1))).map fun j : Nat => 100 + (j : Int)
theorem tagsN_succ (n : Nat) : tagsN (n + 1) = tagsN n ++ [100 + (n : Int)] := by simp [tagsN, List.range_succ]
theorem tagsN_not (n : Nat) : 100 + (n : Int) ∉ tagsN n := by
  simp only [tagsN, List.mem_map, List.mem_range, not_exists, not_and]
  intro j hj; omega
theorem tagsN_place (n k : Nat) (hk : k < n) : placeL (tagsN n) (100 + (k : Int)) = k := by
  have hl : (tagsN n).length = n := by simp [tagsN]
  have : (tagsN n).findIdx (· == 100 + (k : Int)) = k := by
    rw [List.findIdx_eq (by rw [hl]; exact hk)]
    refine ⟨by simp [tagsN], fun j hj => ?_⟩
    simp only [tagsN, List.getElem_map, List.getElem_range, beq_eq_false_iff_ne, ne_eq]
    omega
  unfold placeL
  rw [this, hl, if_pos hk]
theorem tagsN_erase (n k : Nat) (hk : k < n) : (tagsN n).eraseIdx k = tagsL n k 0 := by
  have e : List.range n = List.range' 0 k ++ k :: List.range' (k + 1) (n - (k + 1)) := by
    have h1 : List.range' 0 k ++ List.range' (0 + k) (n - (k + 1) + 1) = List.range' 0 (k + (n - (k + 1) + 1)) := List.range'_append_1 ..
    rw [Nat.zero_add, List.range'_succ, show k + (n - (k + 1) + 1) = n by omega] at h1
    rw [List.range_eq_range', ← h1]
  rw [tagsN, tagsL, e, List.map_append, List.map_cons, List.eraseIdx_append_of_length_le (by simp), show max 0 (k + 1) = k + 1 by omega, Nat.sub_zero, List.map_append]
  congr 1
  simp
theorem tagsL_not (n k : Nat) : 100 + (k : Int) ∉ tagsL n k 0 := by
  simp only [tagsL, List.mem_map, List.mem_append, List.mem_range'_1, not_exists, not_and]
  intro j hj; omega
theorem tagsL_skip (n k : Nat) : tagsL n k (k + 1) = tagsL n k k := by
  unfold tagsL
  rw [show k - (k + 1) = k - k by omega, show max (k + 1) (k + 1) = max k (k + 1) by omega]
  simp
theorem tagsL_cons (n k i : Nat) (hi : i < n) (hik : i ≠ k) : tagsL n k i = (100 + (i : Int)) :: tagsL n k (i + 1) := by
  unfold tagsL
  rcases Nat.lt_or_ge i k with h | h
  · rw [show k - i = (k - (i + 1)) + 1 by omega, List.range'_succ, show max i (k + 1) = max (i + 1) (k + 1) by omega]
    rfl
  · rw [show k - i = 0 by omega, show k - (i + 1) = 0 by omega, show max i (k + 1) = i by omega, show max (i + 1) (k + 1) = i + 1 by omega, show n - i = (n - (i + 1)) + 1 by omega, List.range'_succ]
    rfl
theorem tagsL_end (n k : Nat) (hk : k < n) : tagsL n k n = [] := by
  unfold tagsL
  rw [show k - n = 0 by omega, show n - max n (k + 1) = 0 by omega]
  rfl

/-- The loop that puts. -/
def Fl1 (w0 : World) (g n : Nat) (v : Value) (wr : World) : Prop :=
  ∃ (i : Nat) (rows : List (List Value)), i ≤ n ∧ v = .int .i64 i ∧ TG wr g rows i 8 ∧ TagsAre rows i (tagsN i) ∧ AllOne rows ∧ Below w0.heap.size w0 wr
/-- The loop that picks. -/
def Fl2 (w0 : World) (g n k : Nat) (v : Value) (wr : World) : Prop :=
  ∃ (i m : Nat) (rows : List (List Value)), i ≤ n ∧ v = .int .i64 i ∧ TG wr g rows m 8 ∧ TagsAre rows m (tagsL n k i) ∧ AllOne rows ∧ Below w0.heap.size w0 wr

set_option maxRecDepth 100000 in
set_option maxHeartbeats 4000000 in
theorem tagsFlushes_walk (many which : Int) (w : World) (b0 : -9223372036854775808 ≤ many) (t0 : many ≤ 9223372036854775807) (b1 : -9223372036854775808 ≤ which) (t1 : which ≤ 9223372036854775807) :
    Calls Try.prog 6 #[.int .i64 many, .int .i64 which] w fun e w' => e = .returned (.bool true) ∧ Below w.heap.size w w' := by
  have hz := askZ_zero
  go_enter Try.func6, Try.ntmps6
  go_wp2_with fail
  refine (new_any 8 _ (by omega) (by omega)).mono ?_
  rintro e wn ⟨rfl, hTn, hbn⟩
  have HTn := Lib.hid hTn
  obtain ⟨g, hg⟩ : ∃ g, g = w.heap.size := ⟨_, rfl⟩
  rw [← hg] at HTn ⊢
  have hgle : w.heap.size ≤ g := by omega
  clear hTn hg
  go_wp2_with fail
  refine (around_any many 8 _ b0 t0 (by omega) (by omega)).mono ?_
  rintro e wn' ⟨kk, _, hk8, rfl, rfl⟩
  obtain ⟨n, hn⟩ : ∃ n : Nat, n = 1 + kk := ⟨_, rfl⟩
  have hni : 1 + (kk : Int) = n := by omega
  have hn1 : 1 ≤ n := by omega
  have hn8 : n ≤ 8 := by omega
  clear hn
  go_wp2
  clear hni
  go_loopw [8] (fun i wr => Fl1 w g n i wr) (fun i _ => n - (intOf i).toNat)
  case atStart => exact ⟨0, rows0, by omega, rfl, HTn.out, TagsAre.nil _, AllOne.zero, hbn⟩
  case round =>
    obtain ⟨i, rows, hi, rfl, hT, hA, hO, hb⟩ := hrel
    have HT := Lib.hid hT
    have HA := Lib.hid hA
    have HO := Lib.hid hO
    clear hT hA hO
    by_cases hlt : i < n
    · have hin : (i : Int) < n := by omega
      go_wp2_with fail
      refine (put_bare2 g rows i 8 (tagsN i) 124 (100 + (i : Int)) _ HT.out HA.out HO.out (tagsN_not i) (by omega)).mono ?_
      rintro e w3 ⟨rfl, hK3, rows3, hT3, hA3, hO3⟩
      have HT3 := Lib.hid hT3
      have HA3 := Lib.hid hA3
      have HK3 := Lib.hid hK3
      clear hT3 hA3 hK3
      go_wp2
      go_roundw
      case rel => exact ⟨i + 1, rows3, by omega, by go_num, HT3.out, by rw [tagsN_succ]; exact HA3.out, hO3, hb.trans (HK3.out.is hgle (Nat.le_of_lt HT.out.lt))⟩
      case measure => simp [intOf]; omega
    · obtain rfl : n = i := by omega
      have hin : ¬ (n : Int) < n := by omega
      go_wp2_with fail
      refine (around_any which n _ b1 t1 hn1 (by omega)).mono ?_
      rintro e w3 ⟨k, _, hkn, rfl, rfl⟩
      obtain ⟨q, hq⟩ : ∃ q, n = q + 1 := ⟨n - 1, by omega⟩
      have HQ := Lib.hid hq
      clear hq
      go_wp2_with fail
      refine (flush_any g rows n q 8 k (tagsN n) (100 + (k : Int)) _ HT.out HA.out HQ.out (by have := HQ.out; omega) (tagsN_place n k hkn) HO.out).mono ?_
      rintro e w4 ⟨rfl, rows4, hE4, hM4, hT4, hK4⟩
      have HT4 := Lib.hid hT4
      have HK4 := Lib.hid hK4
      have HA4 := Lib.hid (show TagsAre rows4 q (tagsL n k 0) by
        rw [← tagsN_erase n k hkn]
        exact TagsAre.erase (by rw [← HQ.out]; exact HA.out) (by have := HQ.out; omega) hE4.out)
      have HO4 := Lib.hid (AllOne.taken HO.out hM4.out)
      clear hT4 hK4
      go_wp2_with fail
      refine (flush_none g rows4 q 8 (tagsL n k 0) (100 + (k : Int)) _ HT4.out HA4.out (tagsL_not n k)).mono ?_
      rintro e w5 ⟨rfl, rfl⟩
      have hb4 := hb.trans (HK4.out.is hgle (Nat.le_of_lt HT.out.lt))
      clear hE4 hM4
      go_wp2
      go_loopw [12] (fun i wr => Fl2 w g n k i wr) (fun i _ => n - (intOf i).toNat)
      case atStart => exact ⟨0, q, rows4, by omega, rfl, HT4.out, HA4.out, HO4.out, hb4⟩
      case round =>
        obtain ⟨i, m, rows, hi, rfl, hT, hA, hO, hb⟩ := hrel
        have HT := Lib.hid hT
        have HA := Lib.hid hA
        have HO := Lib.hid hO
        clear hT hA hO
        by_cases hlt : i < n
        · have hin : (i : Int) < n := by omega
          by_cases hik : i = k
          · obtain rfl := hik
            go_wp2
            go_roundw
            case rel => exact ⟨i + 1, m, rows, by omega, by go_num, HT.out, by rw [tagsL_skip]; exact HA.out, HO.out, hb⟩
            case measure => simp [intOf]; omega
          · have hiki : ¬ (i : Int) = k := by omega
            have hcons := tagsL_cons n k i hlt hik
            obtain ⟨m', hm⟩ : ∃ m', m = m' + 1 := ⟨m - 1, by have h1 := HA.out.1; rw [hcons] at h1; simp at h1; omega⟩
            obtain ⟨r, hr, hv⟩ := HA.out.2 0 (100 + (i : Int)) (by rw [hcons]; rfl)
            obtain ⟨x0, x1, x2, x3, x4, x5, x6, x7, x8, x9, x10, x11, x12, x13, rfl⟩ := row14 r (HT.out.2.1 r (List.mem_of_getElem? hr))
            obtain rfl : x1 = .int .i64 (100 + (i : Int)) := by simpa using hv
            have HR := Lib.hid hr
            have HM := Lib.hid hm
            have HC := Lib.hid hcons
            clear hr hv hm hcons
            go_wp2_with fail
            refine (pick_any g rows m m' 8 0 x0 (.int .i64 (100 + (i : Int))) x2 x3 x4 x5 x6 x7 x8 x9 x10 x11 x12 x13 _ HT.out HM.out (by omega) HR.out HO.out).mono ?_
            rintro e w6 ⟨rfl, rows6, hE6, hM6, hT6, hK6⟩
            have HT6 := Lib.hid hT6
            have HK6 := Lib.hid hK6
            have HA6 := Lib.hid (show TagsAre rows6 m' (tagsL n k (i + 1)) by
              have h9 := TagsAre.erase (k := 0) (show TagsAre rows (m' + 1) (tagsL n k i) by rw [← HM.out]; exact HA.out) (by omega) hE6.out
              rw [HC.out] at h9
              exact h9)
            have HO6 := Lib.hid (AllOne.taken HO.out hM6.out)
            clear hT6 hK6
            have hb6 := hb.trans (HK6.out.is hgle (Nat.le_of_lt HT.out.lt))
            have hBz := Blk.new w6 32 askZ
            unfold askZ at hBz
            have hone : ∀ v ∈ ([x0, (.int .i64 (100 + (i : Int))), x2, x3, x4, x5, x6, x7, x8, x9, x10, x11, x12, x13] : List Value), v.oneCell' = true := HO.out _ (List.mem_of_getElem? HR.out)
            have hB7 := hBz.setRow [x0, (.int .i64 (100 + (i : Int))), x2, x3, x4, x5, x6, x7, x8, x9, x10, x11, x12, x13]
            have hb7 : Below w6.heap.size w6 ((w6.alloc (.cells #[.int .i64 0, .int .i64 0, .int .i64 0, .int .i64 0, .int .i64 0, .int .i64 0, .int .i64 0, .int .i64 0, .int .i64 0, .int .i64 0, .string ByteArray.empty, .slice none 0 0, .int .i64 0, .slice none 0 0] 32)).setRow w6.heap.size #[x0, (.int .i64 (100 + (i : Int))), x2, x3, x4, x5, x6, x7, x8, x9, x10, x11, x12, x13]) := below_setRow ((Below.refl _ _).alloc (Nat.le_refl _) _) (Nat.le_refl _) _
            clear hE6 hM6
            go_upto_region 17 with (refine wpList_storeBlk rfl (.tmp 13) (.tmp 60) rfl rfl [x0, (.int .i64 (100 + (i : Int))), x2, x3, x4, x5, x6, x7, x8, x9, x10, x11, x12, x13] rfl rfl (by kernel_rfl) hBz rfl hone ?_)
            clear hBz hone
            generalize (w6.alloc (.cells #[.int .i64 0, .int .i64 0, .int .i64 0, .int .i64 0, .int .i64 0, .int .i64 0, .int .i64 0, .int .i64 0, .int .i64 0, .int .i64 0, .string ByteArray.empty, .slice none 0 0, .int .i64 0, .slice none 0 0] 32)).setRow w6.heap.size #[x0, (.int .i64 (100 + (i : Int))), x2, x3, x4, x5, x6, x7, x8, x9, x10, x11, x12, x13] = w7 at hB7 hb7
            have c1 := hB7.cell 1 _ rfl
            clear hB7
            go_wp2
            go_roundw
            case rel => exact ⟨i + 1, m', rows6, by omega, by go_num, HT6.out.up hb7, HA6.out, HO6.out, Up.trans hb6 hb7⟩
            case measure => simp [intOf]; omega
        · have hin : ¬ (i : Int) < n := by omega
          obtain rfl : n = i := by omega
          have hm0 : m = 0 := by have h1 := HA.out.1; rw [tagsL_end n k hkn] at h1; simpa using h1.symm
          subst hm0
          go_wp2_with fail
          refine (len_any g rows 0 8 _ HT.out).mono ?_
          rintro e w6 ⟨rfl, rfl⟩
          go_wp2_with fail
          refine (tlives_any _).mono ?_
          rintro e w9 ⟨rfl, hb9⟩
          go_wp2
          go_ret
          exact ⟨rfl, Up.trans hb hb9⟩
end Go.Proofs.Ytgogdgpdkkbfhaa
