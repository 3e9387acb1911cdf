/-
  Layer 22: the law TagsOnce, walked.
-/
import Derived.Test.YtgogdgpdkkbfhaaTagsG
import Derived.Test.YtgogdgpdkkbfhaaAsksIn
import Derived.Test.YtgogdgpdkkbfhaaRowInV
namespace Go.Proofs.Ytgogdgpdkkbfhaa
open Go.RowKit
set_option linter.unusedVariables false
set_option linter.unusedSimpArgs false

theorem askElem : Elem Try.prog 40 32 (.agg askZ.toArray) 14 152 := elem_of Try.underlying40 (by kernel_rfl) rfl (by omega)
theorem boolElem : Elem Try.prog 41 4 (.bool false) 1 1 := elem_of Try.underlying41 (by kernel_rfl) rfl (by omega)

theorem own_type {w : World} {base : Nat} {e : TypeId} {size n c m : Nat} {A : Option Addr} {xs : List Value} (h : Own w base e size (.slice A n c) m xs) : ∀ b, A.map (·.block) = some b → ∃ cur fz, w.heap[b]? = some (.cells cur e fz) := by
  intro b hb
  rcases h.2 with ⟨hv, _⟩ | ⟨g, cap, cur, fz, hv, _, hh, _⟩
  · injection hv with h1
    subst h1
    cases hb
  · injection hv with h1
    subst h1
    obtain rfl : g = b := by simpa using hb
    exact ⟨cur, fz, hh⟩
/-- Whatever has another type than the row that grows stays. -/
theorem not_grown {w : World} {base : Nat} {e t : TypeId} {size n c m : Nat} {A : Option Addr} {xs : List Value} (h : Own w base e size (.slice A n c) m xs) (ht : t ≠ e) {b : Nat} {cur : Array Value} {fz : Nat × Nat} (hh : w.heap[b]? = some (.cells cur t fz)) : ¬ (A.map (·.block) = some b) := fun hb => by
  obtain ⟨cur', fz', hh'⟩ := own_type h b hb
  rw [hh] at hh'
  injection hh' with hh'
  injection hh' with _ h3
  exact ht h3

def tags0 (j : Nat) : List Int := (List.range j).map fun k : Nat => (k : Int)
theorem tags0_succ (j : Nat) : tags0 (j + 1) = tags0 j ++ [(j : Int)] := by simp [tags0, List.range_succ]
theorem tags0_not (j : Nat) : (j : Int) ∉ tags0 j := by
  simp only [tags0, List.mem_map, List.mem_range, not_exists, not_and]
  intro k hk; omega
/-- The requests that were put: their tags are their numbers. -/
def OnX (xs : List AskV) (j : Nat) : Prop := xs.length = j ∧ ∀ (k : Nat) (x : AskV), xs[k]? = some x → x.tag = k ∧ x.names.length ≤ 8 ∧ x.data.length ≤ 30
theorem OnX.snoc {xs : List AskV} {j : Nat} (h : OnX xs j) {x : AskV} (h1 : x.tag = j) (h2 : x.names.length ≤ 8) (h3 : x.data.length ≤ 30) : OnX (xs ++ [x]) (j + 1) := by
  refine ⟨by simp [h.1], fun k y hy => ?_⟩
  rcases Nat.lt_or_ge k xs.length with hk | hk
  · rw [List.getElem?_append_left hk] at hy
    exact h.2 k y hy
  · rw [List.getElem?_append_right hk] at hy
    have h0 : k - xs.length = 0 := by
      have := (List.getElem?_eq_some_iff.1 hy).1
      simp at this
      omega
    rw [h0] at hy
    obtain rfl : y = x := by simpa using hy.symm
    have : k = j := by have := h.1; omega
    subst this
    exact ⟨h1, h2, h3⟩

def On1 (w0 : World) (g n0 : Nat) (v i : Value) (wr : World) : Prop :=
  ∃ (j c : Nat) (A : Option Addr) (rows os : List (List Value)) (xs : List AskV), j ≤ n0 ∧ j ≤ 8 ∧ i = .int .i64 j ∧ v = .slice A j c ∧ TG wr g rows j 8 ∧ TagsAre rows j (tags0 j) ∧ AllOne rows ∧ OwR wr (g + 1) 32 14 A j c os ∧ Rws wr (g + 1) rows xs ∧ Rws wr (g + 1) os xs ∧ OnX xs j ∧ Below w0.heap.size w0 wr

theorem map_erase {α β : Type} (f : α → β) (l : List α) (k : Nat) : (l.eraseIdx k).map f = (l.map f).eraseIdx k := by
  rw [List.eraseIdx_eq_take_drop_succ, List.eraseIdx_eq_take_drop_succ, List.map_append, List.map_take, List.map_drop]
/-- Each tag stands but once. -/
def Inj (ts : List Nat) : Prop := ∀ (a b t : Nat), ts[a]? = some t → ts[b]? = some t → a = b
theorem erase_back (ts : List Nat) (k a t : Nat) (h : (ts.eraseIdx k)[a]? = some t) : ts[if a < k then a else a + 1]? = some t := by
  rw [List.getElem?_eraseIdx] at h
  split at h
  · rename_i h1; rw [if_pos h1]; exact h
  · rename_i h1; rw [if_neg h1]; exact h
theorem Inj.erase {ts : List Nat} (h : Inj ts) (k : Nat) : Inj (ts.eraseIdx k) := fun a b t ha hb => by
  have := h _ _ _ (erase_back ts k a t ha) (erase_back ts k b t hb)
  split at this <;> split at this <;> omega
theorem Inj.out {ts : List Nat} (h : Inj ts) {k t : Nat} (hk : ts[k]? = some t) : t ∉ ts.eraseIdx k := fun hm => by
  obtain ⟨a, ha⟩ := List.getElem?_of_mem hm
  have := h _ _ _ (erase_back ts k a t ha) hk
  split at this <;> omega
theorem Inj.range (n : Nat) : Inj (List.range n) := fun a b t ha hb => by
  have h1 := List.getElem?_eq_some_iff.1 ha
  have h2 := List.getElem?_eq_some_iff.1 hb
  obtain ⟨_, h1⟩ := h1
  obtain ⟨_, h2⟩ := h2
  simp at h1 h2
  omega

def On2 (w0 : World) (g n gs : Nat) (A : Option Addr) (c : Nat) (os : List (List Value)) (xs : List AskV) (i : Value) (wr : World) : Prop :=
  ∃ (j m : Nat) (rows : List (List Value)) (ts : List Nat) (ys : List AskV) (bs : List Bool), j + m = n ∧ i = .int .i64 j ∧ TG wr g rows m 8 ∧ TagsAre rows m (ts.map fun k : Nat => (k : Int)) ∧ AllOne rows ∧ Inj ts ∧ (∀ t ∈ ts, t < n ∧ bs[t]? = some false) ∧
    Rws wr (g + 1) rows ys ∧ ys.length = m ∧ (∀ (k : Nat) (y : AskV), ys[k]? = some y → ∃ t, ts[k]? = some t ∧ xs[t]? = some y) ∧ OwV wr (g + 1) 4 (some ⟨gs, 0, none⟩) n n (bs.map Value.bool) ∧ OwR wr (g + 1) 32 14 A n c os ∧ Rws wr (g + 1) os xs ∧ Below w0.heap.size w0 wr

set_option maxRecDepth 100000 in
set_option maxHeartbeats 16000000 in
theorem tagsOnce_walk (Al : Option Addr) (n0 c0 : Nat) (Ar : Option Addr) (nr cr : Nat) (zs : List Int) (w : World) (hl : AskArg w w.heap.size Al n0) (hn0 : n0 ≤ 9223372036854775807)
    (hr : RdV w w.heap.size Ar nr (kv .i64 zs)) (hz2 : ∀ z ∈ zs, -9223372036854775808 ≤ z ∧ z ≤ 9223372036854775807) (hnr : nr ≤ 9223372036854775807) :
    Calls Try.prog 5 #[.slice Al n0 c0, .slice Ar nr cr] w fun e w' => e = .returned (.bool true) ∧ Below w.heap.size w w' := by
  have hz := askZ_zero
  have HL := Lib.hid hl
  have HRow := Lib.hid hr
  have HZ2 := Lib.hid hz2
  have hzl : zs.length = nr := by have := hr.len; simpa [kv] using this
  have HZL := Lib.hid hzl
  clear hl hr hz2 hzl
  go_enter Try.func5, Try.ntmps5
  go_wp2_with fail
  refine (new_any 8 _ (by omega) (by omega)).mono ?_
  rintro e wn ⟨rfl, hTn, hbn⟩
  have HTn := Lib.hid hTn
  obtain ⟨g, hg⟩ : ∃ g, g = w.heap.size := ⟨_, rfl⟩
  rw [← hg] at HTn ⊢
  have hgle : w.heap.size ≤ g := by omega
  have Hbn := Lib.hid hbn
  clear hTn hg hbn
  go_upto_block 0 with fail
  go_cut [7, 8, 9] from 17 (fun v i p wx => On1 w g n0 v i wx)
  case first =>
   go_wp2_with fail
   go_loopw [7, 8] (fun v i wr => On1 w g n0 v i wr) (fun _ i _ => 8 - (intOf i).toNat)
   case atStart => exact ⟨0, 0, none, rows0, [], [], by omega, by omega, rfl, rfl, HTn.out, TagsAre.nil _, AllOne.zero, OwR.nil _ _ _ _, Rws.nil _ _ _, Rws.nil _ _ _, ⟨rfl, fun k x h => by simp at h⟩, Hbn.out⟩
   case round =>
     obtain ⟨j, c, A, rows, os, xs, hj, hj8, rfl, rfl, hT, hA, hOne, hO, hR1, hR2, hX, hbw⟩ := hrel
     have HT := Lib.hid hT
     have HA := Lib.hid hA
     have HOne := Lib.hid hOne
     have HO := Lib.hid hO
     have HR1 := Lib.hid hR1
     have HR2 := Lib.hid hR2
     have HX := Lib.hid hX
     have HB := Lib.hid hbw
     have hgr := hT.lt
     clear hT hA hOne hO hR1 hR2 hX hbw
     by_cases hlt : j < n0 ∧ j < 8
     · obtain ⟨hlt1, hlt8⟩ := hlt
       have j0 : (0 : Int) ≤ j := by omega
       have j1 : (j : Int) < n0 := by omega
       have j8 : (j : Int) < 8 := by omega
       obtain ⟨b, off, x, An, nn, cn, Ad, nd, cd, hAl, hbl, hc, hok⟩ := (HL.out.up HB.out) j hlt1
       subst hAl
       obtain ⟨p0, p1, p2, p3, p4, p5, p6, p7, p8, p9, p10, pn, pns, pd⟩ := x
       have k0 := hc 0 _ rfl
       have k1 := hc 1 _ rfl
       have k2 := hc 2 _ rfl
       have k3 := hc 3 _ rfl
       have k4 := hc 4 _ rfl
       have k5 := hc 5 _ rfl
       have k6 := hc 6 _ rfl
       have k7 := hc 7 _ rfl
       have k8 := hc 8 _ rfl
       have k9 := hc 9 _ rfl
       have k10 := hc 10 _ rfl
       have k11 := hc 11 _ rfl
       have k12 := hc 12 _ rfl
       have k13 := hc 13 _ rfl
       simp only [Nat.add_zero] at k0
       have HOK := Lib.hid hok
       clear hc hok
       go_wp2_with fail
       refine (good_ok ⟨p0, p1, p2, p3, p4, p5, p6, p7, p8, p9, p10, pn, pns, pd⟩ An nn cn Ad nd cd _ (by have := HOK.out; exact { this with names := this.names.more HB.out.size, data := this.data.more HB.out.size })).mono ?_
       rintro e w2 ⟨y, Xn, xn, xc, Xd, xd, xe, hy, rfl, hXN, hXD, hb2⟩
       have hxn := good_names ⟨p0, p1, p2, p3, p4, p5, p6, p7, p8, p9, p10, pn, pns, pd⟩
       have hxd := good_data ⟨p0, p1, p2, p3, p4, p5, p6, p7, p8, p9, p10, pn, pns, pd⟩
       rw [← hy.out] at hxn hxd
       clear hy
       obtain ⟨q0, q1, q2, q3, q4, q5, q6, q7, q8, q9, q10, qn, qns, qd⟩ := y
       simp only [askC]
       have hBz := Blk.new w2 32 [.int .i64 0, .int .i64 0, .int .i64 0, .int .i64 0, .int .i64 0, .int .i64 0, .int .i64 0, .int .i64 0, .int .i64 0, .int .i64 0, .string ByteArray.empty, .slice none 0 0, .int .i64 0, .slice none 0 0]
       have hbS : Below w2.heap.size w2 ((w2.alloc (.cells #[.int .i64 0, .int .i64 0, .int .i64 0, .int .i64 0, .int .i64 0, .int .i64 0, .int .i64 0, .int .i64 0, .int .i64 0, .int .i64 0, .string ByteArray.empty, .slice none 0 0, .int .i64 0, .slice none 0 0] 32)).setRow w2.heap.size #[.int .i64 q0, .int .i64 q1, .int .i64 q2, .int .i64 q3, .int .i64 q4, .int .i64 q5, .int .i64 q6, .int .i64 q7, .int .i64 q8, .int .i64 q9, .string (st qn), .slice Xn xn xc, .int .i64 q10, .slice Xd xd xe]) := below_setRow ((Below.refl _ _).alloc (Nat.le_refl _) _) (Nat.le_refl _) _
       have hXb := hBz.setRow [.int .i64 q0, .int .i64 q1, .int .i64 q2, .int .i64 q3, .int .i64 q4, .int .i64 q5, .int .i64 q6, .int .i64 q7, .int .i64 q8, .int .i64 q9, .string (st qn), .slice Xn xn xc, .int .i64 q10, .slice Xd xd xe]
       obtain ⟨gX, hgX⟩ : ∃ g, g = w2.heap.size := ⟨_, rfl⟩
       have hw2 : wr.heap.size ≤ w2.heap.size := hb2.size
       go_upto_region 9 with (refine wpList_storeBlk rfl (.tmp 9) (.tmp 41) rfl rfl [.int .i64 q0, .int .i64 q1, .int .i64 q2, .int .i64 q3, .int .i64 q4, .int .i64 q5, .int .i64 q6, .int .i64 q7, .int .i64 q8, .int .i64 q9, .string (st qn), .slice Xn xn xc, .int .i64 q10, .slice Xd xd xe] rfl rfl (by kernel_rfl) hBz rfl (by simp [Value.oneCell']) ?_)
       clear k0 k1 k2 k3 k4 k5 k6 k7 k8 k9 k10 k11 k12 k13 hBz
       generalize (w2.alloc (.cells #[.int .i64 0, .int .i64 0, .int .i64 0, .int .i64 0, .int .i64 0, .int .i64 0, .int .i64 0, .int .i64 0, .int .i64 0, .int .i64 0, .string ByteArray.empty, .slice none 0 0, .int .i64 0, .slice none 0 0] 32)).setRow w2.heap.size #[.int .i64 q0, .int .i64 q1, .int .i64 q2, .int .i64 q3, .int .i64 q4, .int .i64 q5, .int .i64 q6, .int .i64 q7, .int .i64 q8, .int .i64 q9, .string (st qn), .slice Xn xn xc, .int .i64 q10, .slice Xd xd xe] = w3 at hbS hXb
       rw [← hgX] at hXb ⊢
       have hgX1 : w2.heap.size ≤ gX := by omega
       clear hgX
       have ku := hXb.cell 1 _ rfl
       have kf := hXb.free 1
       have hX4 := hXb.set 1 (.int .i64 j)
       have hb34 : Below w2.heap.size w2 (w3.setCell ⟨gX, 1, none⟩ (.int .i64 j)) := hbS.trans (((Keeps.refl (Is gX) w3).setCell (p := ⟨gX, 1, none⟩) (.inl rfl) _).is (by omega) (Nat.le_of_lt hXb.lt))
       have hbr4 : Below wr.heap.size wr (w3.setCell ⟨gX, 1, none⟩ (.int .i64 j)) := Up.trans hb2 hb34
       have hXN4 := (hXN.up hb34)
       have hXD4 := (hXD.up hb34)
       clear hXb hbS
       go_upto_region 10 with fail
       generalize w3.setCell ⟨gX, 1, none⟩ (.int .i64 j) = w4 at hX4 hb34 hbr4 hXN4 hXD4
       clear ku kf
       have hO4 := HO.out.up hbr4
       have Hsrc := Lib.hid (Src.oneR (P := Try.prog) (k := 14) w4 40 32 Try.underlying40 [.int .i64 q0, .int .i64 j, .int .i64 q2, .int .i64 q3, .int .i64 q4, .int .i64 q5, .int .i64 q6, .int .i64 q7, .int .i64 q8, .int .i64 q9, .string (st qn), .slice Xn xn xc, .int .i64 q10, .slice Xd xd xe] rfl (by simp [Value.oneCell']) #[.int .i64 q0, .int .i64 j, .int .i64 q2, .int .i64 q3, .int .i64 q4, .int .i64 q5, .int .i64 q6, .int .i64 q7, .int .i64 q8, .int .i64 q9, .string (st qn), .slice Xn xn xc, .int .i64 q10, .slice Xd xd xe] rfl 32)
       have hsz : g + 1 ≤ (w4.alloc (.cells #[.int .i64 q0, .int .i64 j, .int .i64 q2, .int .i64 q3, .int .i64 q4, .int .i64 q5, .int .i64 q6, .int .i64 q7, .int .i64 q8, .int .i64 q9, .string (st qn), .slice Xn xn xc, .int .i64 q10, .slice Xd xd xe] 32)).heap.size := by have := hbr4.size; simp; omega
       have x0 := hX4.cell 0 _ rfl
       have x1 := hX4.cell 1 _ rfl
       have x2 := hX4.cell 2 _ rfl
       have x3 := hX4.cell 3 _ rfl
       have x4 := hX4.cell 4 _ rfl
       have x5 := hX4.cell 5 _ rfl
       have x6 := hX4.cell 6 _ rfl
       have x7 := hX4.cell 7 _ rfl
       have x8 := hX4.cell 8 _ rfl
       have x9 := hX4.cell 9 _ rfl
       have x10 := hX4.cell 10 _ rfl
       have x11 := hX4.cell 11 _ rfl
       have x12 := hX4.cell 12 _ rfl
       have x13 := hX4.cell 13 _ rfl
       go_upto_region 11 with (at_builtin; go_must (refine wpList_appendR askElem rfl (.tmp 44) (.tmp 46) 40 rfl (g + 1) A j c os rfl (hO4.alloc _) _ rfl [.int .i64 q0, .int .i64 j, .int .i64 q2, .int .i64 q3, .int .i64 q4, .int .i64 q5, .int .i64 q6, .int .i64 q7, .int .i64 q8, .int .i64 q9, .string (st qn), .slice Xn xn xc, .int .i64 q10, .slice Xd xd xe] rfl Hsrc.out (by omega) (by omega) hsz ?_); intro A5 n5 c5 os5 w5 hos5 hn5 hown5 hb5 hg5; simp only [Act.put, List.setIfInBounds_toArray, List.set_cons_succ, List.set_cons_zero])
       obtain rfl : n5 = j + 1 := hn5.out
       obtain rfl := hos5.out
       have hgrow : Keeps (fun k => A.map (·.block) = some k) (w4.alloc (.cells #[.int .i64 q0, .int .i64 j, .int .i64 q2, .int .i64 q3, .int .i64 q4, .int .i64 q5, .int .i64 q6, .int .i64 q7, .int .i64 q8, .int .i64 q9, .string (st qn), .slice Xn xn xc, .int .i64 q10, .slice Xd xd xe] 32)) w5 := Keeps.of_grown hg5 (fun k hk => hk)
       have hO4a := (hO4.alloc (.cells #[.int .i64 q0, .int .i64 j, .int .i64 q2, .int .i64 q3, .int .i64 q4, .int .i64 q5, .int .i64 q6, .int .i64 q7, .int .i64 q8, .int .i64 q9, .string (st qn), .slice Xn xn xc, .int .i64 q10, .slice Xd xd xe] 32)).2.2
       have hne : ∀ b (cur : Array Value) (fz : Nat × Nat) (t : TypeId), g + 1 ≤ b → (w4.alloc (.cells #[.int .i64 q0, .int .i64 j, .int .i64 q2, .int .i64 q3, .int .i64 q4, .int .i64 q5, .int .i64 q6, .int .i64 q7, .int .i64 q8, .int .i64 q9, .string (st qn), .slice Xn xn xc, .int .i64 q10, .slice Xd xd xe] 32)).heap[b]? = some (.cells cur t fz) → (t = 9 ∨ t = 5) → ¬ (A.map (·.block) = some b) := fun b cur fz t _ hh ht => not_grown hO4a (by rcases ht with rfl | rfl <;> decide) hh
       have hOlt : ∀ b, A.map (·.block) = some b → g + 1 ≤ b ∧ b < wr.heap.size := fun b hb => by
         cases A with
         | none => cases hb
         | some a => exact Own.lt HO.out.2.2 b hb
       have hX5 : Blk w5 gX 32 [.int .i64 q0, .int .i64 j, .int .i64 q2, .int .i64 q3, .int .i64 q4, .int .i64 q5, .int .i64 q6, .int .i64 q7, .int .i64 q8, .int .i64 q9, .string (st qn), .slice Xn xn xc, .int .i64 q10, .slice Xd xd xe] := (hX4.alloc _).keeps hgrow (fun h => by have := (hOlt gX h).2; omega)
       have hT5 : TG w5 g rows j 8 := ((HT.out.up hbr4).up ((Below.refl _ _).alloc (Nat.le_refl _) _)).keeps hgrow (fun h => by have := (hOlt g h).1; omega)
       have hR15 := ((HR1.out.up hbr4).up ((Below.refl _ _).alloc (Nat.le_refl _) (.cells #[.int .i64 q0, .int .i64 j, .int .i64 q2, .int .i64 q3, .int .i64 q4, .int .i64 q5, .int .i64 q6, .int .i64 q7, .int .i64 q8, .int .i64 q9, .string (st qn), .slice Xn xn xc, .int .i64 q10, .slice Xd xd xe] 32))).keepT hgrow hne
       have hR25 := ((HR2.out.up hbr4).up ((Below.refl _ _).alloc (Nat.le_refl _) (.cells #[.int .i64 q0, .int .i64 j, .int .i64 q2, .int .i64 q3, .int .i64 q4, .int .i64 q5, .int .i64 q6, .int .i64 q7, .int .i64 q8, .int .i64 q9, .string (st qn), .slice Xn xn xc, .int .i64 q10, .slice Xd xd xe] 32))).keepT hgrow hne
       have hNew : AskRow w4 (g + 1) [.int .i64 q0, .int .i64 j, .int .i64 q2, .int .i64 q3, .int .i64 q4, .int .i64 q5, .int .i64 q6, .int .i64 q7, .int .i64 q8, .int .i64 q9, .string (st qn), .slice Xn xn xc, .int .i64 q10, .slice Xd xd xe] ⟨q0, j, q2, q3, q4, q5, q6, q7, q8, q9, q10, qn, qns, qd⟩ := ⟨Xn, xn, xc, Xd, xd, xe, rfl, hXN4.lower (by omega), hXD4.lower (by omega)⟩
       have hNew5 := (hNew.up ((Below.refl _ _).alloc (Nat.le_refl _) (.cells #[.int .i64 q0, .int .i64 j, .int .i64 q2, .int .i64 q3, .int .i64 q4, .int .i64 q5, .int .i64 q6, .int .i64 q7, .int .i64 q8, .int .i64 q9, .string (st qn), .slice Xn xn xc, .int .i64 q10, .slice Xd xd xe] 32))).keepT hgrow hne
       have hB5 : Below w.heap.size w w5 := ((HB.out.trans (hbr4.mono HB.out.size)).alloc (by have := HB.out.size; have := hbr4.size; omega) (.cells #[.int .i64 q0, .int .i64 j, .int .i64 q2, .int .i64 q3, .int .i64 q4, .int .i64 q5, .int .i64 q6, .int .i64 q7, .int .i64 q8, .int .i64 q9, .string (st qn), .slice Xn xn xc, .int .i64 q10, .slice Xd xd xe] 32)).trans (hb5.mono (by omega))
       clear x0 x1 x2 x3 x4 x5 x6 x7 x8 x9 x10 x11 x12 x13 hX4 hb34 hbr4 hXN4 hXD4 hb5 hg5 hO4 hO4a hne hNew hgrow hXN hXD hb2
       have HT5 := Lib.hid hT5
       have HR15 := Lib.hid hR15
       have HR25 := Lib.hid hR25
       have HNew := Lib.hid hNew5
       have HB5 := Lib.hid hB5
       have HO5 := Lib.hid hown5
       have x0 := hX5.cell 0 _ rfl
       have x1 := hX5.cell 1 _ rfl
       have x2 := hX5.cell 2 _ rfl
       have x3 := hX5.cell 3 _ rfl
       have x4 := hX5.cell 4 _ rfl
       have x5 := hX5.cell 5 _ rfl
       have x6 := hX5.cell 6 _ rfl
       have x7 := hX5.cell 7 _ rfl
       have x8 := hX5.cell 8 _ rfl
       have x9 := hX5.cell 9 _ rfl
       have x10 := hX5.cell 10 _ rfl
       have x11 := hX5.cell 11 _ rfl
       have x12 := hX5.cell 12 _ rfl
       have x13 := hX5.cell 13 _ rfl
       obtain ⟨Xn', xn', xc', Xd', xd', xe', heq, hN5, hD5⟩ := hNew5
       clear hT5 hR15 hR25 hB5 hown5 hX5
       obtain ⟨rfl, rfl, rfl, rfl, rfl, rfl⟩ : Xn' = Xn ∧ xn' = xn ∧ xc' = xc ∧ Xd' = Xd ∧ xd' = xd ∧ xe' = xe := by
         simp only [askC, List.cons.injEq, Value.slice.injEq, true_and, and_true] at heq
         obtain ⟨⟨a1, a2, a3⟩, b1, b2, b3⟩ := heq
         exact ⟨a1.symm, a2.symm, a3.symm, b1.symm, b2.symm, b3.symm⟩
       clear heq
       go_wp2_with fail
       refine (put_row g rows j 8 (tags0 j) ⟨q0, j, q2, q3, q4, q5, q6, q7, q8, q9, q10, qn, qns, qd⟩ Xn' xn' xc' Xd' xd' xe' _ HT5.out HA.out (tags0_not j) hlt8 hN5.rd hxn (OwB.rd hD5) hxd).mono ?_
       rintro e w6 ⟨rfl, hK6, r, hT6, hr6⟩
       have hne6 : ∀ b (cur : Array Value) (fz : Nat × Nat) (t : TypeId), g + 1 ≤ b → w5.heap[b]? = some (.cells cur t fz) → (t = 9 ∨ t = 5) → ¬ Is g b := fun b cur fz t hb _ _ h => by have h' : b = g := h; omega
       have HT6 := Lib.hid hT6
       have HR16 := Lib.hid (HR15.out.keepT hK6 hne6)
       have HR26 := Lib.hid (HR25.out.keepT hK6 hne6)
       have HN6 := Lib.hid (HNew.out.keepT hK6 hne6)
       have HO6 := Lib.hid (HO5.out.keeps hK6 (fun k hk h => by have h' : k = g := h; omega))
       have HB6 := Lib.hid (HB5.out.trans (hK6.is hgle (Nat.le_of_lt HT5.out.lt)))
       have Hr6 := Lib.hid (hr6.lower (show g + 1 ≤ w5.heap.size from HT5.out.lt))
       have hxl := HX.out.1
       have hrl := HT.out.1
       have hos := HO.out.len
       clear hT6 hK6 hr6 hN5 hD5 x0 x1 x2 x3 x4 x5 x6 x7 x8 x9 x10 x11 x12 x13
       go_wp2
       go_roundw
       case rel => exact ⟨j + 1, c5, A5, rows.set j r, os ++ [[.int .i64 q0, .int .i64 j, .int .i64 q2, .int .i64 q3, .int .i64 q4, .int .i64 q5, .int .i64 q6, .int .i64 q7, .int .i64 q8, .int .i64 q9, .string (st qn), .slice Xn' xn' xc', .int .i64 q10, .slice Xd' xd' xe']], xs ++ [⟨q0, j, q2, q3, q4, q5, q6, q7, q8, q9, q10, qn, qns, qd⟩], by omega, by omega, by go_num, rfl, HT6.out,
         by rw [tags0_succ]; exact HA.out.snoc (by omega) r _ Hr6.out.tag, HOne.out.set _ _ Hr6.out.one, HO6.out,
         by have h := HR16.out.set (by omega) Hr6.out; rw [hxl] at h; exact h, HR26.out.snoc (by omega) HN6.out, HX.out.snoc rfl hxn hxd, HB6.out⟩
       case measure => simp [intOf]; omega
     · have hstop : (decide ((j : Int) < n0) = false ∧ decide (j < n0) = false) ∨ (j < n0 ∧ decide ((j : Int) < 8) = false ∧ decide (j < 8) = false) := by
         rcases Nat.lt_or_ge j n0 with h | h
         · right; exact ⟨h, by simp; omega, by simp; omega⟩
         · left; exact ⟨by simp; omega, by simp; omega⟩
       clear hlt
       have hO' := HO.out
       rcases hstop with ⟨s1, s2⟩ | ⟨s1, s2, s3⟩
       all_goals
         go_wp2_with fail
         go_meet
         exact ⟨j, c, A, rows, os, xs, hj, hj8, rfl, rfl, HT.out, HA.out, HOne.out, HO.out, HR1.out, HR2.out, HX.out, HB.out⟩
  case rest =>
    obtain ⟨n, c, A, rows, os, xs, hj, hj8, rfl, rfl, hT, hA, hOne, hO, hR1, hR2, hX, hbw⟩ := hcut
    have hgr := hT.lt
    have hsz : g + 1 ≤ wc.heap.size := hgr
    have HT := Lib.hid hT
    have HA := Lib.hid hA
    have HOne := Lib.hid hOne
    have HO := Lib.hid hO
    have HR1 := Lib.hid hR1
    have HR2 := Lib.hid hR2
    have HX := Lib.hid hX
    have HB := Lib.hid hbw
    clear hT hA hOne hO hR1 hR2 hX hbw
    go_wp2_with (at_make; go_must (refine wpList_makeV boolElem rfl rfl (.tmp 53) (.tmp 53) rfl .i64 .i64 n rfl rfl (by omega) (by omega) (g + 1) hsz ?_); intro gs w2 hS hb2 hgs)
    have HT2 := Lib.hid (HT.out.up hb2)
    have HO2 := Lib.hid (HO.out.up hb2)
    have HR12 := Lib.hid (HR1.out.up hb2)
    have HR22 := Lib.hid (HR2.out.up hb2)
    have HB2 := Lib.hid (HB.out.trans (hb2.mono HB.out.size))
    have HS := Lib.hid hS
    have hggs : g < gs := by omega
    clear hS hb2 HT HO HR1 HR2 HB hgr hsz hgs
    go_loopw [11] (fun i wr => On2 w g n gs A c os xs i wr) (fun i _ => n - (intOf i).toNat)
    case atStart =>
      refine ⟨0, n, rows, List.range n, xs, List.replicate n false, by omega, rfl, HT2.out, HA.out, HOne.out, Inj.range n, ?_, HR12.out, HX.out.1, ?_, ?_, HO2.out, HR22.out, HB2.out⟩
      · intro t ht
        have htn : t < n := by simpa using ht
        exact ⟨htn, by rw [List.getElem?_replicate, if_pos htn]⟩
      · intro k y hy
        have hk : k < n := by have := (List.getElem?_eq_some_iff.1 hy).1; have := HX.out.1; omega
        exact ⟨k, by rw [List.getElem?_range hk], hy⟩
      · have h := HS.out
        rw [List.map_replicate]; exact h
    case round =>
      obtain ⟨j, m, rows, ts, ys, bs, hjm, rfl, hT, hA, hOne, hI, hts, hR, hyl, hyx, hS, hO, hR2, hbw⟩ := hrel
      have hgr := hT.lt
      have HT := Lib.hid hT
      have HA := Lib.hid hA
      have HOne := Lib.hid hOne
      have HI := Lib.hid hI
      have HTS := Lib.hid hts
      have HR := Lib.hid hR
      have HYX := Lib.hid hyx
      have HS := Lib.hid hS
      have HO := Lib.hid hO
      have HR2 := Lib.hid hR2
      have HB := Lib.hid hbw
      clear hT hA hOne hI hts hR hyx hS hO hR2 hbw HT2 HO2 HR12 HR22 HB2
      by_cases hlt : j < n
      · have j0 : (0 : Int) ≤ j := by omega
        have j1 : (j : Int) < n := by omega
        obtain ⟨q, rfl⟩ : ∃ q, m = q + 1 := ⟨m - 1, by omega⟩
        go_upto_if 64 with fail
        go_cut [12] from 55 to 118 (fun v wx => ∃ k : Nat, k < q + 1 ∧ v = .int .i64 k ∧ wx = wr)
        case first =>
          by_cases hrow : j < nr
          · have r1 : (j : Int) < nr := by omega
            obtain ⟨b, off, u, hAr, hbl, hu, hc⟩ := (HRow.out.below HB.out).at_ hrow
            subst hAr
            have hjz : j < zs.length := by rw [HZL.out]; exact hrow
            obtain ⟨z, hz'⟩ : ∃ z, z = zs[j] := ⟨_, rfl⟩
            obtain rfl : u = .int .i64 z := by
              simp only [kv, List.getElem?_map, List.getElem?_eq_getElem hjz, Option.map_some] at hu
              rw [hz']; exact (Option.some.inj hu).symm
            have hzb := HZ2.out z (by rw [hz']; exact List.getElem_mem hjz)
            have hnm : (n : Int) - j = ((q + 1 : Nat) : Int) := by omega
            have HNM := Lib.hid hnm
            clear hu hz' hnm
            go_wp2_with fail
            rw [HNM.out]
            refine (around_any z (q + 1) _ hzb.1 hzb.2 (by omega) (by omega)).mono ?_
            rintro e w' ⟨k, _, hk, rfl, rfl⟩
            go_wp2
            go_meet
            exact ⟨k, hk, rfl, rfl⟩
          · have r1 : ¬ (j : Int) < nr := by omega
            go_wp2
            go_meet
            exact ⟨0, by omega, rfl, rfl⟩
        case rest =>
          obtain ⟨k, hk, rfl, hwx⟩ := hcut
          subst hwx
          obtain ⟨y, hy⟩ : ∃ y, ys[k]? = some y := ⟨_, List.getElem?_eq_getElem (by omega)⟩
          obtain ⟨r, hr, hrow⟩ := HR.out k y hy
          obtain ⟨Pn, pn, pc, Pd, pd, pe, rfl, hPN, hPD⟩ := hrow
          obtain ⟨t, ht, hxt⟩ := HYX.out k y hy
          obtain ⟨htn, hbt⟩ := HTS.out t (List.mem_of_getElem? ht)
          have hyb := HX.out.2 t y hxt
          obtain ⟨y0, y1, y2, y3, y4, y5, y6, y7, y8, y9, y10, yn, yns, yd⟩ := y
          obtain ⟨hy1, hyn, hyd⟩ := hyb
          obtain rfl : y1 = t := hy1
          have t0 : (0 : Int) ≤ t := by omega
          have t1 : (t : Int) < n := by omega
          have t2 : ¬ (t : Int) < 0 := by omega
          have t3 : ¬ (n : Int) ≤ t := by omega
          have HT_ := Lib.hid ht
          have HXT := Lib.hid hxt
          have HRK := Lib.hid hr
          have HBT := Lib.hid hbt
          have HPN := Lib.hid hPN
          have HPD := Lib.hid hPD
          have HYL := Lib.hid (show (ys.eraseIdx k).length = q by
            rw [List.length_eraseIdx, hyl]
            split
            · omega
            · omega)
          clear hy hr ht hxt hbt hPN hPD
          simp only [askC] at HRK
          go_wp2_with fail
          refine (pick_any g rows (q + 1) q 8 k (.int .i64 y0) (.int .i64 t) (.int .i64 y2) (.int .i64 y3) (.int .i64 y4) (.int .i64 y5) (.int .i64 y6) (.int .i64 y7) (.int .i64 y8) (.int .i64 y9) (.string (st yn)) (.slice Pn pn pc) (.int .i64 y10) (.slice Pd pd pe) _ HT.out rfl (by omega) HRK.out HOne.out).mono ?_
          rintro e w6 ⟨rfl, rows6, hE6, hM6, hT6, hK6⟩
          have hg6 := hT6.lt
          have hng : ∀ b, g + 1 ≤ b → ¬ Is g b := fun b hb h => by have h' : b = g := h; omega
          have hO6 := HO.out.keeps hK6 hng
          have hR6 : Rws w6 (g + 1) rows6 (ys.eraseIdx k) := (HR.out.keepT hK6 (fun b _ _ _ hb _ _ => hng b hb)).erase hyl (by omega) hE6.out
          have hR26 := HR2.out.keepT hK6 (fun b _ _ _ hb _ _ => hng b hb)
          have hS6 : OwV w6 (g + 1) 4 (some ⟨gs, 0, none⟩) n n (bs.map Value.bool) := Own.keeps HS.out hK6 hng
          have hPN6 : OwV w6 (g + 1) 9 Pn pn pc (sv yns) := Own.keeps HPN.out hK6 hng
          have hPD6 : OwB w6 (g + 1) Pd pd pe yd := Own.keeps HPD.out hK6 hng
          have hB6 := HB.out.trans (hK6.is hgle (Nat.le_of_lt hgr))
          have hA6 : TagsAre rows6 q ((ts.eraseIdx k).map fun k : Nat => (k : Int)) := by
            have h := HA.out.erase (by omega) hE6.out
            rw [map_erase]; exact h
          have hOne6 := HOne.out.taken hM6.out
          have hBz := Blk.new w6 32 [.int .i64 0, .int .i64 0, .int .i64 0, .int .i64 0, .int .i64 0, .int .i64 0, .int .i64 0, .int .i64 0, .int .i64 0, .int .i64 0, .string ByteArray.empty, .slice none 0 0, .int .i64 0, .slice none 0 0]
          have hbS : Below w6.heap.size w6 ((w6.alloc (.cells #[.int .i64 0, .int .i64 0, .int .i64 0, .int .i64 0, .int .i64 0, .int .i64 0, .int .i64 0, .int .i64 0, .int .i64 0, .int .i64 0, .string ByteArray.empty, .slice none 0 0, .int .i64 0, .slice none 0 0] 32)).setRow w6.heap.size #[.int .i64 y0, .int .i64 t, .int .i64 y2, .int .i64 y3, .int .i64 y4, .int .i64 y5, .int .i64 y6, .int .i64 y7, .int .i64 y8, .int .i64 y9, .string (st yn), .slice Pn pn pc, .int .i64 y10, .slice Pd pd pe]) := below_setRow ((Below.refl _ _).alloc (Nat.le_refl _) _) (Nat.le_refl _) _
          have hYb := hBz.setRow [.int .i64 y0, .int .i64 t, .int .i64 y2, .int .i64 y3, .int .i64 y4, .int .i64 y5, .int .i64 y6, .int .i64 y7, .int .i64 y8, .int .i64 y9, .string (st yn), .slice Pn pn pc, .int .i64 y10, .slice Pd pd pe]
          obtain ⟨gY, hgY⟩ : ∃ g, g = w6.heap.size := ⟨_, rfl⟩
          have HT6 := Lib.hid hT6
          clear hT6 hK6 hE6 hM6 HT HR
          go_upto_region 21 with (refine wpList_storeBlk rfl (.tmp 13) (.tmp 78) rfl rfl [.int .i64 y0, .int .i64 t, .int .i64 y2, .int .i64 y3, .int .i64 y4, .int .i64 y5, .int .i64 y6, .int .i64 y7, .int .i64 y8, .int .i64 y9, .string (st yn), .slice Pn pn pc, .int .i64 y10, .slice Pd pd pe] rfl rfl (by kernel_rfl) hBz rfl (by simp [Value.oneCell']) ?_)
          clear hBz
          generalize (w6.alloc (.cells #[.int .i64 0, .int .i64 0, .int .i64 0, .int .i64 0, .int .i64 0, .int .i64 0, .int .i64 0, .int .i64 0, .int .i64 0, .int .i64 0, .string ByteArray.empty, .slice none 0 0, .int .i64 0, .slice none 0 0] 32)).setRow w6.heap.size #[.int .i64 y0, .int .i64 t, .int .i64 y2, .int .i64 y3, .int .i64 y4, .int .i64 y5, .int .i64 y6, .int .i64 y7, .int .i64 y8, .int .i64 y9, .string (st yn), .slice Pn pn pc, .int .i64 y10, .slice Pd pd pe] = w7 at hbS hYb
          rw [← hgY] at hYb ⊢
          have HT7 := Lib.hid (HT6.out.up hbS)
          have HO7 := Lib.hid (hO6.up hbS)
          have HR7 := Lib.hid (hR6.up hbS)
          have HR27 := Lib.hid (hR26.up hbS)
          have HS7 := Lib.hid (OwV.up hS6 hbS)
          have HPN7 := Lib.hid (OwV.up hPN6 hbS)
          have HPD7 := Lib.hid (OwB.up hPD6 hbS)
          have HB7 := Lib.hid (hB6.trans (hbS.mono hB6.size))
          have HA7 := Lib.hid hA6
          have HOne7 := Lib.hid hOne6
          have HY7 := Lib.hid hYb
          clear hgY hO6 hR6 hR26 hS6 hPN6 hPD6 hB6 hA6 hOne6 hbS hYb HT6
          have c1 := HY7.out.cell 1 _ rfl
          go_upto_region 23 with fail
          obtain ⟨o, ho, hor⟩ := HR27.out t _ HXT.out
          obtain ⟨Xn, xn, xc, Xd, xd, xe, rfl, hXN, hXD⟩ := hor
          have hrdO := HO7.out.rd
          obtain ⟨b, off, r', hAo, _, hr', _, hco⟩ := hrdO.at_ htn
          obtain rfl : r' = _ := Option.some.inj (hr'.symm.trans ho)
          subst hAo
          have hS0 := Own.cells HS7.out (g := gs) rfl t (.bool false) (by rw [List.getElem?_map, HBT.out]; rfl)
          rw [add_plain, Nat.zero_add] at hS0
          have s0 := cell_abv (G := NoG) (w := w7.drew) hS0 id
          have HXN := Lib.hid hXN
          have HXD := Lib.hid hXD
          have b0 := HY7.out.drew.abv 0 _ rfl
          have b1 := HY7.out.drew.abv 1 _ rfl
          have b2 := HY7.out.drew.abv 2 _ rfl
          have b3 := HY7.out.drew.abv 3 _ rfl
          have b4 := HY7.out.drew.abv 4 _ rfl
          have b5 := HY7.out.drew.abv 5 _ rfl
          have b6 := HY7.out.drew.abv 6 _ rfl
          have b7 := HY7.out.drew.abv 7 _ rfl
          have b8 := HY7.out.drew.abv 8 _ rfl
          have b9 := HY7.out.drew.abv 9 _ rfl
          have b10 := HY7.out.drew.abv 10 _ rfl
          have b11 := HY7.out.drew.abv 11 _ rfl
          have b12 := HY7.out.drew.abv 12 _ rfl
          have b13 := HY7.out.drew.abv 13 _ rfl
          have o0 := cell_abv (G := NoG) (w := w7.drew) (hco 0 _ rfl) id
          have o1 := cell_abv (G := NoG) (w := w7.drew) (hco 1 _ rfl) id
          have o2 := cell_abv (G := NoG) (w := w7.drew) (hco 2 _ rfl) id
          have o3 := cell_abv (G := NoG) (w := w7.drew) (hco 3 _ rfl) id
          have o4 := cell_abv (G := NoG) (w := w7.drew) (hco 4 _ rfl) id
          have o5 := cell_abv (G := NoG) (w := w7.drew) (hco 5 _ rfl) id
          have o6 := cell_abv (G := NoG) (w := w7.drew) (hco 6 _ rfl) id
          have o7 := cell_abv (G := NoG) (w := w7.drew) (hco 7 _ rfl) id
          have o8 := cell_abv (G := NoG) (w := w7.drew) (hco 8 _ rfl) id
          have o9 := cell_abv (G := NoG) (w := w7.drew) (hco 9 _ rfl) id
          have o10 := cell_abv (G := NoG) (w := w7.drew) (hco 10 _ rfl) id
          have o11 := cell_abv (G := NoG) (w := w7.drew) (hco 11 _ rfl) id
          have o12 := cell_abv (G := NoG) (w := w7.drew) (hco 12 _ rfl) id
          have o13 := cell_abv (G := NoG) (w := w7.drew) (hco 13 _ rfl) id
          have o0' : ∀ p : Abv NoG w7.drew, p.val.cell? ⟨b, off + t * 14, none⟩ = some (.int .i64 y0) := o0
          clear ho hr' hrdO hco hXN hXD c1
          refine wp_region_tq NoG (.t 0 (.t 1 (.t 2 (.t 3 (.t 4 (.t 5 (.t 6 (.t 7 (.t 8 (.t 9 (.t 10 (.t 11 (.s 12 (.t 13 (.t 14 (.t 15 (.t 16 (.t 17 (.t 18 (.s 19 (.t 20 .nil))))))))))))))))))))) (by kernel_rfl) (by kernel_rfl) ?_
          repeat (refine tq_take (by simp only [List.getElem?_toArray, List.getElem?_cons_succ, List.getElem?_cons_zero]; exact rfl) ?_; go_big_quiet_step (fail); refine wpQuiet_nil ?_)
          refine tq_solo (by simp only [List.getElem?_toArray, List.getElem?_cons_succ, List.getElem?_cons_zero]; exact rfl) ?_
          clear b0 b1 b2 b3 b4 b5 b6 b7 b8 b9 b10 b11 b12 b13 o0 o1 o2 o3 o4 o5 o6 o7 o8 o9 o10 o11 o12 o13 o0' s0
          go_wp2_with fail
          refine (same_eq y0 t y2 y3 y4 y5 y6 y7 y8 y9 y10 yn yns yd Pn pn pc Pd pd pe Xn xn xc Xd xd xe _ HPN7.out.drew.rd (show OwV w7.drew _ _ Xn xn xc (sv yns) from HXN.out).rd (OwB.rd HPD7.out.drew) (OwB.rd (show OwB w7.drew _ Xd xd xe yd from HXD.out)) (by have := HPN7.out.len; rw [sv_length] at this; omega)).mono ?_
          rintro e w8 ⟨rfl, hb8⟩
          have b1 := (HY7.out.drew.up hb8).abv 1 _ rfl
          have Hb8 := Lib.hid hb8
          clear hb8
          go_wp2
          refine Solo.up Hb8.out ?_
          repeat (refine tq_take (by simp only [List.getElem?_toArray, List.getElem?_cons_succ, List.getElem?_cons_zero]; exact rfl) ?_; go_big_quiet_step (fail); refine wpQuiet_nil ?_)
          refine tq_solo (by simp only [List.getElem?_toArray, List.getElem?_cons_succ, List.getElem?_cons_zero]; exact rfl) ?_
          clear b1
          go_wp2_with fail
          refine (has_tag g rows6 q 8 ((ts.eraseIdx k).map fun k : Nat => (k : Int)) t _ ((show TG w7.drew g rows6 q 8 from HT7.out).up Hb8.out) HA7.out).mono ?_
          rintro e w9 ⟨rfl, hb9⟩
          have hdec : decide ((t : Int) ∈ ((ts.eraseIdx k).map fun k : Nat => (k : Int))) = false := by
            rw [decide_eq_false_iff_not]
            intro hm
            obtain ⟨t', ht', he⟩ := List.mem_map.1 hm
            obtain rfl : t' = t := by omega
            exact HI.out.out HT_.out ht'
          rw [hdec]
          have Hb89 := Lib.hid (Up.trans Hb8.out hb9)
          have Hb9 := Lib.hid hb9
          clear hdec hb9
          go_wp2
          refine Solo.up Hb9.out ?_
          repeat (refine tq_take (by simp only [List.getElem?_toArray, List.getElem?_cons_succ, List.getElem?_cons_zero]; exact rfl) ?_; go_big_quiet_step (fail); refine wpQuiet_nil ?_)
          refine tq_end ?_
          have hS9 : OwV w9 (g + 1) 4 (some ⟨gs, 0, none⟩) n n (bs.map Value.bool) := OwV.up HS7.out.drew Hb89.out
          obtain ⟨⟨v0, ku⟩, kf, hst, hgrw⟩ := Own.store hS9 t htn (.bool true)
          have c1 := (HY7.out.drew.up Hb89.out).cell 1 _ rfl
          have hGK : Keeps (fun k => (some (⟨gs, 0, none⟩ : Addr)).map (·.block) = some k) w9 (w9.setCell ⟨gs, t, none⟩ (.bool true)) := Keeps.of_grown hgrw (fun k hk => hk)
          have HT9 := Lib.hid (((show TG w7.drew g rows6 q 8 from HT7.out).up Hb89.out).keeps hGK (fun h => by have h' : gs = g := (by simpa using h); omega))
          have HO9 := Lib.hid (show OwR (w9.setCell ⟨gs, t, none⟩ (.bool true)) (g + 1) 32 14 (some ⟨b, off, none⟩) n c os from by
            have h := HO7.out.drew.up Hb89.out
            exact ⟨h.1, h.2.1, Own.keepT h.2.2 hGK (fun b' cur fz _ hh => not_grown hS9 (by decide) hh)⟩)
          have HR9 := Lib.hid ((HR7.out.up (below_of_drew Hb89.out)).keepT hGK (fun b' cur fz ty _ hh hty => not_grown hS9 (by rcases hty with rfl | rfl <;> decide) hh))
          have HR29 := Lib.hid ((HR27.out.up (below_of_drew Hb89.out)).keepT hGK (fun b' cur fz ty _ hh hty => not_grown hS9 (by rcases hty with rfl | rfl <;> decide) hh))
          have HS9 := Lib.hid (show OwV (w9.setCell ⟨gs, t, none⟩ (.bool true)) (g + 1) 4 (some ⟨gs, 0, none⟩) n n ((bs.set t true).map Value.bool) from by rw [List.map_set]; exact hst)
          have HB9 := Lib.hid ((HB7.out.drew.trans (Hb89.out.mono (show w.heap.size ≤ w7.drew.heap.size from HB7.out.size))).trans (hGK.under (B := w.heap.size) (Nat.le_trans (show w.heap.size ≤ w7.drew.heap.size from HB7.out.size) Hb89.out.size) (fun k hk h => by have h' : gs = k := (by simpa using h); omega)))
          clear hS9 hst hgrw hGK HS7 HT7 HO7 HR7 HR27 HB7 Hb9 Hb89
          go_wp2
          go_roundw
          case rel =>
            refine ⟨j + 1, q, rows6, ts.eraseIdx k, ys.eraseIdx k, bs.set t true, by omega, by go_num, HT9.out, HA7.out, HOne7.out, HI.out.erase k, ?_, HR9.out, HYL.out, ?_, HS9.out, HO9.out, HR29.out, HB9.out⟩
            · intro t' ht'
              obtain ⟨h1, h2⟩ := HTS.out t' (List.mem_of_mem_eraseIdx ht')
              refine ⟨h1, ?_⟩
              rw [List.getElem?_set_ne (fun e => HI.out.out HT_.out (by rw [e]; exact ht'))]
              exact h2
            · intro a y ha
              rw [List.getElem?_eraseIdx] at ha
              rw [List.getElem?_eraseIdx]
              split at ha
              · rename_i h1; rw [if_pos h1]; exact HYX.out a y ha
              · rename_i h1; rw [if_neg h1]; exact HYX.out (a + 1) y ha
          case measure => simp [intOf]; omega
      · have hlt2 : ¬ (j : Int) < n := by omega
        obtain rfl : m = 0 := by omega
        go_wp2_with fail
        refine (pick_none g rows 0 8 0 _ HT.out (by omega)).mono ?_
        rintro e w6 ⟨rfl, hb6⟩
        simp only [askZ]
        have hBz := Blk.new w6 32 [.int .i64 0, .int .i64 0, .int .i64 0, .int .i64 0, .int .i64 0, .int .i64 0, .int .i64 0, .int .i64 0, .int .i64 0, .int .i64 0, .string ByteArray.empty, .slice none 0 0, .int .i64 0, .slice none 0 0]
        have hbS : Below w6.heap.size w6 ((w6.alloc (.cells #[.int .i64 0, .int .i64 0, .int .i64 0, .int .i64 0, .int .i64 0, .int .i64 0, .int .i64 0, .int .i64 0, .int .i64 0, .int .i64 0, .string ByteArray.empty, .slice none 0 0, .int .i64 0, .slice none 0 0] 32)).setRow w6.heap.size #[.int .i64 0, .int .i64 0, .int .i64 0, .int .i64 0, .int .i64 0, .int .i64 0, .int .i64 0, .int .i64 0, .int .i64 0, .int .i64 0, .string ByteArray.empty, .slice none 0 0, .int .i64 0, .slice none 0 0]) := below_setRow ((Below.refl _ _).alloc (Nat.le_refl _) _) (Nat.le_refl _) _
        go_upto_region 27 with (refine wpList_storeBlk rfl (.tmp 15) (.tmp 122) rfl rfl [.int .i64 0, .int .i64 0, .int .i64 0, .int .i64 0, .int .i64 0, .int .i64 0, .int .i64 0, .int .i64 0, .int .i64 0, .int .i64 0, .string ByteArray.empty, .slice none 0 0, .int .i64 0, .slice none 0 0] rfl rfl (by kernel_rfl) hBz rfl (by simp [Value.oneCell']) ?_)
        clear hBz
        generalize (w6.alloc (.cells #[.int .i64 0, .int .i64 0, .int .i64 0, .int .i64 0, .int .i64 0, .int .i64 0, .int .i64 0, .int .i64 0, .int .i64 0, .int .i64 0, .string ByteArray.empty, .slice none 0 0, .int .i64 0, .slice none 0 0] 32)).setRow w6.heap.size #[.int .i64 0, .int .i64 0, .int .i64 0, .int .i64 0, .int .i64 0, .int .i64 0, .int .i64 0, .int .i64 0, .int .i64 0, .int .i64 0, .string ByteArray.empty, .slice none 0 0, .int .i64 0, .slice none 0 0] = w7 at hbS
        have Hb7 := Lib.hid (Up.trans hb6 hbS)
        clear hbS hb6
        go_wp2_with fail
        refine (len_any g rows 0 8 _ (HT.out.up Hb7.out)).mono ?_
        rintro e w8 ⟨rfl, rfl⟩
        go_wp2_with fail
        refine (tlives_any _).mono ?_
        rintro e w9 ⟨rfl, hb9⟩
        go_wp2
        go_ret
        exact ⟨rfl, HB.out.trans ((Up.trans Hb7.out hb9).mono HB.out.size)⟩
end Go.Proofs.Ytgogdgpdkkbfhaa
