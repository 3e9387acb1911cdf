/-
  Layer 22: New, refuses, Put.
-/
import Derived.Test.YtgogdgpdkkbfhaaTagsA
import Derived.Test.YtgogdgpdkkbfhaaVals
import Derived.Test.YtgogdgpdkkbfhaaFew
import Derived.Test.YtgogdgpdkkbfhaaPlan3
import Derived.Deep.CutBlock
namespace Go.Proofs.Ytgogdgpdkkbfhaa
open Go.RowKit
set_option linter.unusedVariables false

theorem strsElem : Elem Try.prog 29 9 (.string ByteArray.empty) 1 16 := elem_of Try.underlying29 (by kernel_rfl) rfl (by omega)

/-- A clone of bytes. -/
def CloneB (w : World) (l : List UInt8) (e : Ending) (w' : World) : Prop := ∃ A' n' c' l', Hid (l' = l) ∧ e = .returned (.slice A' n' c') ∧ OwB w' w.heap.size A' n' c' l' ∧ Below w.heap.size w w'
/-- A clone of strings. -/
def CloneS (w : World) (l : List Value) (e : Ending) (w' : World) : Prop := ∃ A' n' c' l', Hid (l' = l) ∧ e = .returned (.slice A' n' c') ∧ OwV w' w.heap.size 9 A' n' c' l' ∧ Below w.heap.size w w'

theorem OwV.empty (w : World) (base : Nat) (e : TypeId) (hb : base ≤ w.heap.size) : OwV (w.alloc (.cells #[] e)) base e (some ⟨w.heap.size, 0, none⟩) 0 0 [] :=
  ⟨by simp, .inr ⟨w.heap.size, 0, #[], (0, 0), rfl, hb, heap_alloc_new w _, .inl (Nat.le_refl _), Nat.le_refl _, by unfold maxLen; omega, by simp, by simp⟩⟩
theorem OwB.empty' (w : World) (base : Nat) (hb : base ≤ w.heap.size) : OwB (w.alloc (.cells #[] 5)) base (some ⟨w.heap.size, 0, none⟩) 0 0 [] :=
  ⟨by simp [bv], .inr ⟨w.heap.size, 0, #[], (0, 0), rfl, hb, heap_alloc_new w _, .inl (Nat.le_refl _), Nat.le_refl _, by unfold maxLen; omega, by simp, by simp [bv]⟩⟩

theorem cloneB_any (A : Option Addr) (n c : Nat) (l : List UInt8) (w : World) (h : RdB w w.heap.size A n l) (hn : n ≤ 1073741824) :
    Calls Try.prog 27 #[.slice A n c] w (CloneB w l) := by
  have hq := fun W => Lib.run_eql_slice_nil (P := Try.prog) W 30 5 A n c 0 0 Try.underlying30
  cases A with
  | none =>
    have hl : l = [] := by
      rcases Nat.eq_zero_or_pos n with h0 | h0
      · exact List.eq_nil_of_length_eq_zero (by rw [h.len]; exact h0)
      · obtain ⟨ad, e, _⟩ := h.2 h0; cases e
    subst hl
    go_enter Try.func27, Try.ntmps27
    go_wp2
    go_ret
    exact ⟨none, 0, 0, [], rfl, rfl, OwB.nil _ _, Below.refl _ _⟩
  | some ad =>
    have H' := Lib.hid ((h.alloc (Nat.le_refl _) (.cells #[] 5)).src (P := Try.prog) (c := c) 30 5 Try.underlying30)
    go_enter Try.func27, Try.ntmps27
    go_wp2_with (at_builtin; go_must (refine wpList_appendB bytesElem rfl (.tmp 5) (.tmp 6) 30 rfl w.heap.size _ 0 0 [] rfl (OwB.empty' w _ (Nat.le_refl _)) _ rfl n l H'.out (by omega) (by simp) ?_); intro A2 n2 c2 l2 w2 hl2 hn2 hown2 hb2 hg2)
    go_ret
    exact ⟨A2, n2, c2, l2, by rw [hl2.out]; rfl, rfl, hown2, ((Below.refl _ _).alloc (Nat.le_refl _) _).trans hb2⟩

theorem cloneS_any (A : Option Addr) (n c : Nat) (l : List Value) (w : World) (h : RdV w w.heap.size A n l) (h1 : ∀ v ∈ l, v.oneCell' = true) (hn : n ≤ 1048576) :
    Calls Try.prog 26 #[.slice A n c] w (CloneS w l) := by
  have hq := fun W => Lib.run_eql_slice_nil (P := Try.prog) W 29 9 A n c 0 0 Try.underlying29
  cases A with
  | none =>
    have hl : l = [] := by
      rcases Nat.eq_zero_or_pos n with h0 | h0
      · exact List.eq_nil_of_length_eq_zero (by rw [h.len]; exact h0)
      · obtain ⟨ad, e, _⟩ := h.2 h0; cases e
    subst hl
    go_enter Try.func26, Try.ntmps26
    go_wp2
    go_ret
    exact ⟨none, 0, 0, [], rfl, rfl, OwV.nil _ _ _, Below.refl _ _⟩
  | some ad =>
    have H' := Lib.hid ((h.alloc (Nat.le_refl _) (.cells #[] 9)).src (P := Try.prog) (c := c) 29 9 Try.underlying29 h1)
    go_enter Try.func26, Try.ntmps26
    go_wp2_with (at_builtin; go_must (refine wpList_appendV strsElem rfl (.tmp 5) (.tmp 6) 29 rfl w.heap.size _ 0 0 [] rfl (OwV.empty w _ _ (Nat.le_refl _)) _ rfl n l H'.out (by omega) (by omega) (by simp) ?_); intro A2 n2 c2 l2 w2 hl2 hn2 hown2 hb2 hg2)
    go_ret
    exact ⟨A2, n2, c2, l2, by rw [hl2.out]; rfl, rfl, hown2, ((Below.refl _ _).alloc (Nat.le_refl _) _).trans hb2⟩

/-- Why no request of a tag may be put. -/
def refI (ts : List Int) (n most : Nat) (tag : Int) : Value := if 0 ≤ placeL ts tag then .iface 25 (.int .i64 7) else if most ≤ n then .iface 25 (.int .i64 5) else .nilIface

set_option maxHeartbeats 2000000 in
theorem refuses_any (g : Nat) (rows : List (List Value)) (n most : Nat) (ts : List Int) (tag : Int) (w : World) (h : TG w g rows n most) (ht : TagsAre rows n ts) :
    Calls Try.prog 24 #[.pointer (some ⟨g, 0, none⟩), .int .i64 tag] w fun e w' => e = .returned (refI ts n most tag) ∧ Below w.heap.size w w' := by
  have H := Lib.hid h
  have HT := Lib.hid ht
  have hl := h.lt
  clear h ht
  go_enter Try.func24, Try.ntmps24
  go_wp2_with fail
  refine (place_any g rows n most ts tag _ H.out HT.out).mono ?_
  rintro e w' ⟨rfl, rfl⟩
  by_cases hp : 0 ≤ placeL ts tag
  · have hv : refI ts n most tag = .iface 25 (.int .i64 7) := by unfold refI; rw [if_pos hp]
    have HV := Lib.hid hv
    clear hv
    go_wp2
    go_ret
    exact ⟨by rw [HV.out]; rfl, Below.refl _ _⟩
  · have kn : ∀ p : Abv NoG w.drew, p.val.cell? ⟨g, 112, none⟩ = some (.int .i64 n) := cell_abv (w := w.drew) H.out.n_at id
    have km : ∀ p : Abv NoG w.drew, p.val.cell? ⟨g, 113, none⟩ = some (.int .i64 most) := cell_abv (w := w.drew) H.out.most_at id
    by_cases hf : most ≤ n
    · have hv : refI ts n most tag = .iface 25 (.int .i64 5) := by unfold refI; rw [if_neg hp, if_pos hf]
      have HV := Lib.hid hv
      have hfi : (most : Int) ≤ n := by omega
      clear hv
      go_wp2
      refine wp_region_plan NoG [(0, false), (1, false), (2, false), (3, false), (4, false), (5, false), (6, false), (7, false), (8, false)] (by kernel_rfl) (by kernel_rfl) ?_
      repeat (refine plan_take (by simp only [List.getElem?_toArray, List.getElem?_cons_succ, List.getElem?_cons_zero]; exact rfl) ?_; go_big_quiet_step (fail); refine wpQuiet_nil ?_)
      refine plan_end ?_
      clear kn km
      go_wp2
      go_ret
      exact ⟨by rw [HV.out]; rfl, (Below.refl _ _).drew⟩
    · have hv : refI ts n most tag = .nilIface := by unfold refI; rw [if_neg hp, if_neg hf]
      have HV := Lib.hid hv
      have hfi : ¬ (most : Int) ≤ n := by omega
      clear hv
      go_wp2
      refine wp_region_plan NoG [(0, false), (1, false), (2, false), (3, false), (4, false), (5, false), (6, false), (7, false), (8, false)] (by kernel_rfl) (by kernel_rfl) ?_
      repeat (refine plan_take (by simp only [List.getElem?_toArray, List.getElem?_cons_succ, List.getElem?_cons_zero]; exact rfl) ?_; go_big_quiet_step (fail); refine wpQuiet_nil ?_)
      refine plan_end ?_
      clear kn km
      go_wp2
      go_ret
      exact ⟨by rw [HV.out]; rfl, (Below.refl _ _).drew⟩

/-- A request without anything. -/
def askZ : List Value := [.int .i64 0, .int .i64 0, .int .i64 0, .int .i64 0, .int .i64 0, .int .i64 0, .int .i64 0, .int .i64 0, .int .i64 0, .int .i64 0, .string ByteArray.empty, .slice none 0 0, .int .i64 0, .slice none 0 0]

/-- Tags without anything. -/
def rows0 : List (List Value) := List.replicate 8 askZ
def tagZ : Array Value := (rows0.flatten ++ ([.int .i64 0, .int .i64 0] : List Value)).toArray
def tagM (most : Nat) : Array Value := (rows0.flatten ++ ([.int .i64 (0 : Nat), .int .i64 most] : List Value)).toArray
theorem tagZ_size : tagZ.size = 114 := by kernel_rfl
theorem tagZ_set (most : Nat) : tagZ.setIfInBounds 113 (.int .i64 most) = tagM most := by kernel_rfl
theorem tagZ_zero (w : World) : (zeroValue 60).run Try.prog w = .ok (.agg tagZ) w := by kernel_rfl
theorem tg_new (w : World) (most : Nat) (h8 : most ≤ 8) : TG (w.alloc (.cells (tagM most) 60)) w.heap.size rows0 0 most :=
  ⟨by simp [rows0], by intro r hr; rw [List.eq_of_mem_replicate (show r ∈ List.replicate 8 askZ from hr)]; rfl, Nat.zero_le _, h8, heap_alloc_new w _⟩

set_option maxRecDepth 100000 in
set_option maxHeartbeats 2000000 in
theorem new_any (most : Nat) (w : World) (h0 : 1 ≤ most) (h8 : most ≤ 8) :
    Calls Try.prog 9 #[.int .i64 most] w fun e w' => e = .returned (.tuple #[.pointer (some ⟨w.heap.size, 0, none⟩), .int .i64 0]) ∧ TG w' w.heap.size rows0 0 most ∧ Below w.heap.size w w' := by
  have hd1 : ¬ (most : Int) < 1 := by omega
  have hd2 : ¬ (8 : Int) < most := by omega
  have z0 := tagZ_zero
  have z1 := tagZ_size
  have z2 := tagZ_set most
  go_enter Try.func9, Try.ntmps9
  go_wp2
  go_ret2
  exact ⟨rfl, tg_new w most h8, (Below.refl _ _).alloc (Nat.le_refl _) _⟩
set_option maxHeartbeats 2000000 in
theorem new_bad (most : Int) (w : World) (h : most < 1 ∨ 8 < most) :
    Calls Try.prog 9 #[.int .i64 most] w fun e w' => e = .returned (.tuple #[.pointer none, .int .i64 1]) ∧ w = w' := by
  by_cases h1 : most < 1
  · go_enter Try.func9, Try.ntmps9
    go_wp2
    go_ret2
    exact ⟨rfl, rfl⟩
  · have h8 : 8 < most := by omega
    go_enter Try.func9, Try.ntmps9
    go_wp2
    go_ret2
    exact ⟨rfl, rfl⟩

theorem TG.inc {w : World} {g n most : Nat} {rows : List (List Value)} (h : TG w g rows n most) (hn : n < most) : TG (w.setCell ⟨g, 112, none⟩ (.int .i64 ((n : Int) + 1))) g rows (n + 1) most := by
  refine ⟨h.1, h.2.1, hn, h.2.2.2.1, ?_⟩
  have h3 := h.2.2.2.2.set 112 (.int .i64 ((n : Int) + 1))
  have hl : rows.flatten.length = 112 := by rw [flat_length h.2.1, h.1]
  rw [List.set_append_right _ _ (by omega), hl] at h3
  exact h3

/-- What Put answers, and what it leaves. -/
def PutPost (g : Nat) (rows : List (List Value)) (n most : Nat) (ts : List Int) (tag : Int) (x0 x2 x3 x4 x5 x6 x7 x8 x9 x10 x12 : Value) (names : List Value) (data : List UInt8) (w : World) (e : Ending) (w' : World) : Prop :=
  (0 ≤ placeL ts tag ∧ e = .returned (.int .i64 7) ∧ Below w.heap.size w w') ∨ (¬ 0 ≤ placeL ts tag ∧ most ≤ n ∧ e = .returned (.int .i64 5) ∧ Below w.heap.size w w') ∨
  (¬ 0 ≤ placeL ts tag ∧ n < most ∧ e = .returned (.int .i64 0) ∧ ∃ A' n' c' nm Ad nd cd ld, Hid (nm = names) ∧ Hid (ld = data) ∧ OwV w' w.heap.size 9 A' n' c' nm ∧ OwB w' w.heap.size Ad nd cd ld ∧
    TG w' g (rows.set n [x0, .int .i64 tag, x2, x3, x4, x5, x6, x7, x8, x9, x10, .slice A' n' c', x12, .slice Ad nd cd]) (n + 1) most ∧ Keeps (Is g) w w')

set_option maxRecDepth 100000 in
set_option maxHeartbeats 4000000 in
theorem put_any (g : Nat) (rows : List (List Value)) (n most : Nat) (ts : List Int) (tag : Int) (x0 x2 x3 x4 x5 x6 x7 x8 x9 x10 x12 : Value) (An : Option Addr) (nn cn : Nat) (names : List Value) (Ad : Option Addr) (nd cd : Nat) (data : List UInt8) (w : World)
    (h : TG w g rows n most) (ht : TagsAre rows n ts) (h1 : ∀ v ∈ [x0, x2, x3, x4, x5, x6, x7, x8, x9, x10, x12], v.oneCell' = true) (hN : RdV w w.heap.size An nn names) (hN1 : ∀ v ∈ names, v.oneCell' = true) (hNn : nn ≤ 1048576) (hD : RdB w w.heap.size Ad nd data) (hDn : nd ≤ 1048576) :
    Calls Try.prog 10 #[.pointer (some ⟨g, 0, none⟩), .agg #[x0, .int .i64 tag, x2, x3, x4, x5, x6, x7, x8, x9, x10, .slice An nn cn, x12, .slice Ad nd cd]] w (PutPost g rows n most ts tag x0 x2 x3 x4 x5 x6 x7 x8 x9 x10 x12 names data w) := by
  have H := Lib.hid h
  have HT := Lib.hid ht
  have HN := Lib.hid hN
  have HD := Lib.hid hD
  have HN1 := Lib.hid hN1
  have HO := Lib.hid h1
  have hgl := h.lt
  clear h ht hN hD hN1 h1
  have hB := Blk.new w 32 [x0, .int .i64 tag, x2, x3, x4, x5, x6, x7, x8, x9, x10, .slice An nn cn, x12, .slice Ad nd cd]
  have hbA : Below w.heap.size w (w.alloc (.cells #[x0, .int .i64 tag, x2, x3, x4, x5, x6, x7, x8, x9, x10, .slice An nn cn, x12, .slice Ad nd cd] 32)) := (Below.refl _ _).alloc (Nat.le_refl _) _
  have HB := Lib.hid hB
  have k1 := hB.cell 1 _ rfl
  clear hB
  go_enter Try.func10, Try.ntmps10
  go_wp2_with fail
  refine (refuses_any g rows n most ts tag _ (H.out.up hbA) HT.out).mono ?_
  rintro e w2 ⟨rfl, hb2⟩
  have hb02 := Up.trans hbA hb2
  have HB2 := Lib.hid (HB.out.up hb2)
  clear k1 HB
  by_cases hp : 0 ≤ placeL ts tag
  · have hv : refI ts n most tag = .iface 25 (.int .i64 7) := by unfold refI; rw [if_pos hp]
    rw [hv]
    clear hv
    go_wp2_with fail
    refine (is_same 7 _).mono ?_
    rintro e w3 ⟨rfl, rfl⟩
    go_wp2
    go_ret
    exact .inl ⟨hp, rfl, hb02⟩
  · by_cases hf : most ≤ n
    · have hv : refI ts n most tag = .iface 25 (.int .i64 5) := by unfold refI; rw [if_neg hp, if_pos hf]
      rw [hv]
      clear hv
      go_wp2_with fail
      refine (is_other 5 7 _ (by omega)).mono ?_
      rintro e w3 ⟨rfl, rfl⟩
      go_wp2_with fail
      refine (is_same 5 _).mono ?_
      rintro e w3 ⟨rfl, rfl⟩
      go_wp2
      go_ret
      exact .inr (.inl ⟨by omega, hf, rfl, hb02⟩)
    · have hv : refI ts n most tag = .nilIface := by unfold refI; rw [if_neg hp, if_neg hf]
      rw [hv]
      clear hv
      go_wp2_with fail
      refine (is_nil 7 _).mono ?_
      rintro e w3 ⟨rfl, rfl⟩
      go_wp2_with fail
      refine (is_nil 5 _).mono ?_
      rintro e w3 ⟨rfl, rfl⟩
      go_wp2_with fail
      have HBd := Lib.hid HB2.out.drew
      have HN2 : Hid (RdV w2.drew w2.drew.heap.size An nn names) := (HN.out.up hb02).drew
      have HD2 : Hid (RdB w2.drew w2.drew.heap.size Ad nd data) := (HD.out.up hb02).drew
      have k11 := HBd.out.cell 11 _ rfl
      have k13 := HBd.out.cell 13 _ rfl
      refine wp_region_tr (Is w.heap.size) (.t 0 (.t 3 (.b 1 (.b 2 (.s 4 (.t 6 (.s 5 (.s 7 (.t 8 (.s 9 .nil)))))) 4 (.s 2 (.t 6 (.s 5 (.s 7 (.t 8 (.s 9 .nil))))))) 4 (.s 1 (.s 2 (.t 6 (.s 5 (.s 7 (.t 8 (.s 9 .nil)))))))))) (by kernel_rfl) (by kernel_rfl) ?_
      repeat (refine tr_take (by simp only [List.getElem?_toArray, List.getElem?_cons_succ, List.getElem?_cons_zero]; exact rfl) ?_; go_big_quiet_step (fail); refine wpQuiet_nil ?_)
      refine tr_both (by simp only [List.getElem?_toArray, List.getElem?_cons_succ, List.getElem?_cons_zero]; exact rfl) (by simp only [List.getElem?_toArray, List.getElem?_cons_succ, List.getElem?_cons_zero]; exact rfl) ?_ ?_
      · go_wp2
        refine Solo.mk (Keeps.refl _ _) ?_
        refine tr_both (by simp only [List.getElem?_toArray, List.getElem?_cons_succ, List.getElem?_cons_zero]; exact rfl) (by simp only [List.getElem?_toArray, List.getElem?_cons_succ, List.getElem?_cons_zero]; exact rfl) ?_ ?_
        · go_wp2_with fail
          refine (cloneS_any An nn cn names _ HN2.out HN1.out hNn).mono ?_
          rintro e w4 ⟨A', n', c', nm, hnm, rfl, hownN, hb4⟩
          have k13' := cell_later hb4 k13
          clear k13
          have k13 := k13'
          clear k13'
          go_wp2
          refine Solo.up hb4 ?_
          refine tr_solo (by simp only [List.getElem?_toArray, List.getElem?_cons_succ, List.getElem?_cons_zero]; exact rfl) ?_
          go_wp2
          refine Solo.mk (Keeps.refl _ _) ?_
          repeat (refine tr_take (by simp only [List.getElem?_toArray, List.getElem?_cons_succ, List.getElem?_cons_zero]; exact rfl) ?_; go_big_quiet_step (fail); refine wpQuiet_nil ?_)
          refine tr_solo (by simp only [List.getElem?_toArray, List.getElem?_cons_succ, List.getElem?_cons_zero]; exact rfl) ?_
          clear k13
          go_wp2_with fail
          refine (cloneB_any Ad nd cd data _ (HD2.out.up hb4) (by omega)).mono ?_
          rintro e w5 ⟨Ad', nd', cd', ld, hld, rfl, hownD, hb5⟩
          have hB5 := (HBd.out.up hb4).up hb5
          have q11 := hB5.cell 11 _ rfl
          have f11 := hB5.free 11
          go_wp2
          refine Solo.up hb5 ?_
          refine tr_solo (by simp only [List.getElem?_toArray, List.getElem?_cons_succ, List.getElem?_cons_zero]; exact rfl) ?_
          have hB6 := hB5.set 11 (.slice A' n' c')
          have q13 := hB6.cell 13 _ rfl
          have f13 := hB6.free 13
          go_wp2
          refine Solo.mk ((Keeps.refl (Is w.heap.size) _).setCell (p := ⟨w.heap.size, 11, none⟩) (.inl rfl) _) ?_
          repeat (refine tr_take (by simp only [List.getElem?_toArray, List.getElem?_cons_succ, List.getElem?_cons_zero]; exact rfl) ?_; go_big_quiet_step (fail); refine wpQuiet_nil ?_)
          refine tr_solo (by simp only [List.getElem?_toArray, List.getElem?_cons_succ, List.getElem?_cons_zero]; exact rfl) ?_
          go_wp2
          refine Solo.mk ((Keeps.refl (Is w.heap.size) _).setCell (p := ⟨w.heap.size, 13, none⟩) (.inl rfl) _) ?_
          refine tr_end ?_
          have hB7 := hB6.set 13 (.slice Ad' nd' cd')
          have hW2 : w.heap.size < w2.heap.size := HB2.out.lt
          have hK7 : Keeps (Is w.heap.size) w5 ((w5.setCell ⟨w.heap.size, 11, none⟩ (.slice A' n' c')).setCell ⟨w.heap.size, 13, none⟩ (.slice Ad' nd' cd')) := ((Keeps.refl (Is w.heap.size) _).setCell (p := ⟨w.heap.size, 11, none⟩) (.inl rfl) _).setCell (p := ⟨w.heap.size, 13, none⟩) (.inl rfl) _
          have hb45 := Up.trans hb4 hb5
          have hs4 : w2.heap.size ≤ w4.heap.size := hb4.size
          have hs5 : w4.heap.size ≤ w5.heap.size := hb5.size
          have hN7 := Own.keeps (hownN.up hb5) hK7 (by intro k hk hk2; have : k = w.heap.size := hk2; have hk' : w2.heap.size ≤ k := hk; omega)
          have hD7 := Own.keeps hownD hK7 (by intro k hk hk2; have : k = w.heap.size := hk2; omega)
          have hT7 := ((H.out.up hb02).up (below_of_drew hb45)).keeps hK7 (by intro e; have : g = w.heap.size := e; omega)
          have hb7 : Below w.heap.size w ((w5.setCell ⟨w.heap.size, 11, none⟩ (.slice A' n' c')).setCell ⟨w.heap.size, 13, none⟩ (.slice Ad' nd' cd')) := (Up.trans hb02 (below_of_drew hb45)).trans (hK7.is (Nat.le_refl _) (by omega))
          replace hB7 : Blk ((w5.setCell ⟨w.heap.size, 11, none⟩ (.slice A' n' c')).setCell ⟨w.heap.size, 13, none⟩ (.slice Ad' nd' cd')) w.heap.size 32 [x0, .int .i64 tag, x2, x3, x4, x5, x6, x7, x8, x9, x10, .slice A' n' c', x12, .slice Ad' nd' cd'] := hB7
          have hs7 : w5.heap.size ≤ ((w5.setCell ⟨w.heap.size, 11, none⟩ (.slice A' n' c')).setCell ⟨w.heap.size, 13, none⟩ (.slice Ad' nd' cd')).heap.size := hK7.size
          clear q11 f11 q13 f13 hB5 hB6 hK7 HB2 HBd
          generalize (w5.setCell ⟨w.heap.size, 11, none⟩ (.slice A' n' c')).setCell ⟨w.heap.size, 13, none⟩ (.slice Ad' nd' cd') = W at hN7 hD7 hT7 hb7 hB7 hs7
          have hone : ∀ v ∈ [x0, .int .i64 tag, x2, x3, x4, x5, x6, x7, x8, x9, x10, .slice A' n' c', x12, .slice Ad' nd' cd'], v.oneCell' = true := by
            have := HO.out
            intro v hv
            simp only [List.mem_cons, List.not_mem_nil, or_false] at this hv
            rcases hv with rfl | rfl | rfl | rfl | rfl | rfl | rfl | rfl | rfl | rfl | rfl | rfl | rfl | rfl <;> first | rfl | (apply this; simp)
          have hgA : ¬ Is g w.heap.size := by intro e; have : w.heap.size = g := e; omega
          have kL0 := cell_abv (G := Is g) (hB7.drew.cell 0 _ rfl) hgA
          have kL1 := cell_abv (G := Is g) (hB7.drew.cell 1 _ rfl) hgA
          have kL2 := cell_abv (G := Is g) (hB7.drew.cell 2 _ rfl) hgA
          have kL3 := cell_abv (G := Is g) (hB7.drew.cell 3 _ rfl) hgA
          have kL4 := cell_abv (G := Is g) (hB7.drew.cell 4 _ rfl) hgA
          have kL5 := cell_abv (G := Is g) (hB7.drew.cell 5 _ rfl) hgA
          have kL6 := cell_abv (G := Is g) (hB7.drew.cell 6 _ rfl) hgA
          have kL7 := cell_abv (G := Is g) (hB7.drew.cell 7 _ rfl) hgA
          have kL8 := cell_abv (G := Is g) (hB7.drew.cell 8 _ rfl) hgA
          have kL9 := cell_abv (G := Is g) (hB7.drew.cell 9 _ rfl) hgA
          have kL10 := cell_abv (G := Is g) (hB7.drew.cell 10 _ rfl) hgA
          have kL11 := cell_abv (G := Is g) (hB7.drew.cell 11 _ rfl) hgA
          have kL12 := cell_abv (G := Is g) (hB7.drew.cell 12 _ rfl) hgA
          have kL13 := cell_abv (G := Is g) (hB7.drew.cell 13 _ rfl) hgA
          have kn := hT7.n_at
          have hn8 : n < 8 := by have := H.out.2.2.2.1; omega
          have i0 : (0 : Int) ≤ n := by omega
          have i8 : (n : Int) < 8 := by omega
          go_wp2_with fail
          refine wp_region_tr (Is g) (.t 0 (.t 1 (.t 2 (.t 3 (.t 5 (.t 6 (.t 7 (.s 4 (.t 8 (.s 9 .nil)))))))))) (by kernel_rfl) (by kernel_rfl) ?_
          repeat (refine tr_take (by simp only [List.getElem?_toArray, List.getElem?_cons_succ, List.getElem?_cons_zero]; exact rfl) ?_; go_big_quiet_step (fail); refine wpQuiet_nil ?_)
          refine tr_solo (by simp only [List.getElem?_toArray, List.getElem?_cons_succ, List.getElem?_cons_zero]; exact rfl) ?_
          go_wp2
          refine Solo.mk (Keeps.refl _ _) ?_
          repeat (refine tr_take (by simp only [List.getElem?_toArray, List.getElem?_cons_succ, List.getElem?_cons_zero]; exact rfl) ?_; go_big_quiet_step (fail); refine wpQuiet_nil ?_)
          refine tr_solo (by simp only [List.getElem?_toArray, List.getElem?_cons_succ, List.getElem?_cons_zero]; exact rfl) ?_
          have hBT := hT7.2.2.2.2.drew
          have hl14 : n * 14 + ([x0, .int .i64 tag, x2, x3, x4, x5, x6, x7, x8, x9, x10, .slice A' n' c', x12, .slice Ad' nd' cd'] : List Value).length ≤ (rows.flatten ++ ([.int .i64 n, .int .i64 most] : List Value)).length := by
            have h1 := flat_length hT7.2.1
            have h2 := hT7.1
            rw [List.length_append, h1, h2]
            simp
            omega
          refine wpList_storeMid rfl (.tmp 34) (.tmp 31) rfl rfl [x0, .int .i64 tag, x2, x3, x4, x5, x6, x7, x8, x9, x10, .slice A' n' c', x12, .slice Ad' nd' cd'] rfl rfl (by kernel_rfl) hBT hl14 hone ?_
          refine wpList_nil ?_
          refine Solo.mk (keeps_setRow _ _) ?_
          refine tr_end ?_
          have hT8 : TG (W.drew.setRow g ((rows.flatten ++ ([.int .i64 n, .int .i64 most] : List Value)).take (n * 14) ++ [x0, .int .i64 tag, x2, x3, x4, x5, x6, x7, x8, x9, x10, .slice A' n' c', x12, .slice Ad' nd' cd'] ++ (rows.flatten ++ ([.int .i64 n, .int .i64 most] : List Value)).drop (n * 14 + ([x0, .int .i64 tag, x2, x3, x4, x5, x6, x7, x8, x9, x10, .slice A' n' c', x12, .slice Ad' nd' cd'] : List Value).length)).toArray) g (rows.set n [x0, .int .i64 tag, x2, x3, x4, x5, x6, x7, x8, x9, x10, .slice A' n' c', x12, .slice Ad' nd' cd']) n most := by
            refine ⟨by rw [List.length_set]; exact hT7.1, ?_, hT7.2.2.1, hT7.2.2.2.1, ?_⟩
            · intro r hr
              rcases List.mem_or_eq_of_mem_set hr with h | rfl
              · exact hT7.2.1 r h
              · rfl
            · have h3 := hBT.setRow ((rows.flatten ++ ([.int .i64 n, .int .i64 most] : List Value)).take (n * 14) ++ [x0, .int .i64 tag, x2, x3, x4, x5, x6, x7, x8, x9, x10, .slice A' n' c', x12, .slice Ad' nd' cd'] ++ (rows.flatten ++ ([.int .i64 n, .int .i64 most] : List Value)).drop (n * 14 + ([x0, .int .i64 tag, x2, x3, x4, x5, x6, x7, x8, x9, x10, .slice A' n' c', x12, .slice Ad' nd' cd'] : List Value).length))
              rw [← flat_set hT7.2.1 [.int .i64 n, .int .i64 most] [x0, .int .i64 tag, x2, x3, x4, x5, x6, x7, x8, x9, x10, .slice A' n' c', x12, .slice Ad' nd' cd'] rfl n (by rw [hT7.1]; omega)]
              exact h3
          have hK8 : Keeps (Is g) W (W.drew.setRow g ((rows.flatten ++ ([.int .i64 n, .int .i64 most] : List Value)).take (n * 14) ++ [x0, .int .i64 tag, x2, x3, x4, x5, x6, x7, x8, x9, x10, .slice A' n' c', x12, .slice Ad' nd' cd'] ++ (rows.flatten ++ ([.int .i64 n, .int .i64 most] : List Value)).drop (n * 14 + ([x0, .int .i64 tag, x2, x3, x4, x5, x6, x7, x8, x9, x10, .slice A' n' c', x12, .slice Ad' nd' cd'] : List Value).length)).toArray) := (Keeps.refl _ _).drew.trans (keeps_setRow _ _)
          clear hBT hl14 kL0 kL1 kL2 kL3 kL4 kL5 kL6 kL7 kL8 kL9 kL10 kL11 kL12 kL13 kn hB7
          generalize W.drew.setRow g ((rows.flatten ++ ([.int .i64 n, .int .i64 most] : List Value)).take (n * 14) ++ [x0, .int .i64 tag, x2, x3, x4, x5, x6, x7, x8, x9, x10, .slice A' n' c', x12, .slice Ad' nd' cd'] ++ (rows.flatten ++ ([.int .i64 n, .int .i64 most] : List Value)).drop (n * 14 + ([x0, .int .i64 tag, x2, x3, x4, x5, x6, x7, x8, x9, x10, .slice A' n' c', x12, .slice Ad' nd' cd'] : List Value).length)).toArray = W8 at hT8 hK8
          have kn8 := hT8.n_at
          have fn8 := hT8.2.2.2.2.free 112
          go_wp2
          go_ret
          have hK9 : Keeps (Is g) W (W8.setCell ⟨g, 112, none⟩ (.int .i64 ((n : Int) + 1))) := hK8.setCell (p := ⟨g, 112, none⟩) (.inl rfl) _
          refine .inr (.inr ⟨by omega, by omega, rfl, A', n', c', nm, Ad', nd', cd', ld, hnm, hld, ?_, ?_, ?_, ?_⟩)
          · exact Own.lower (Own.keeps hN7 hK9 (by intro k hk hk2; have : k = g := hk2; have hk' : w2.heap.size ≤ k := hk; omega)) (by show w.heap.size ≤ w2.heap.size; omega)
          · exact Own.lower (Own.keeps hD7 hK9 (by intro k hk hk2; have : k = g := hk2; omega)) (by omega)
          · exact hT8.inc (by omega)
          · exact (Keeps.of_below hb7).trans hK9
        · go_wp2
          refine Solo.mk (Keeps.refl _ _) ?_
          refine tr_solo (by simp only [List.getElem?_toArray, List.getElem?_cons_succ, List.getElem?_cons_zero]; exact rfl) ?_
          go_wp2_with fail
          refine (cloneS_any An nn cn names _ HN2.out HN1.out hNn).mono ?_
          rintro e w4 ⟨A', n', c', nm, hnm, rfl, hownN, hb4⟩
          have k13' := cell_later hb4 k13
          clear k13
          have k13 := k13'
          clear k13'
          go_wp2
          refine Solo.up hb4 ?_
          repeat (refine tr_take (by simp only [List.getElem?_toArray, List.getElem?_cons_succ, List.getElem?_cons_zero]; exact rfl) ?_; go_big_quiet_step (fail); refine wpQuiet_nil ?_)
          refine tr_solo (by simp only [List.getElem?_toArray, List.getElem?_cons_succ, List.getElem?_cons_zero]; exact rfl) ?_
          clear k13
          go_wp2_with fail
          refine (cloneB_any Ad nd cd data _ (HD2.out.up hb4) (by omega)).mono ?_
          rintro e w5 ⟨Ad', nd', cd', ld, hld, rfl, hownD, hb5⟩
          have hB5 := (HBd.out.up hb4).up hb5
          have q11 := hB5.cell 11 _ rfl
          have f11 := hB5.free 11
          go_wp2
          refine Solo.up hb5 ?_
          refine tr_solo (by simp only [List.getElem?_toArray, List.getElem?_cons_succ, List.getElem?_cons_zero]; exact rfl) ?_
          have hB6 := hB5.set 11 (.slice A' n' c')
          have q13 := hB6.cell 13 _ rfl
          have f13 := hB6.free 13
          go_wp2
          refine Solo.mk ((Keeps.refl (Is w.heap.size) _).setCell (p := ⟨w.heap.size, 11, none⟩) (.inl rfl) _) ?_
          repeat (refine tr_take (by simp only [List.getElem?_toArray, List.getElem?_cons_succ, List.getElem?_cons_zero]; exact rfl) ?_; go_big_quiet_step (fail); refine wpQuiet_nil ?_)
          refine tr_solo (by simp only [List.getElem?_toArray, List.getElem?_cons_succ, List.getElem?_cons_zero]; exact rfl) ?_
          go_wp2
          refine Solo.mk ((Keeps.refl (Is w.heap.size) _).setCell (p := ⟨w.heap.size, 13, none⟩) (.inl rfl) _) ?_
          refine tr_end ?_
          have hB7 := hB6.set 13 (.slice Ad' nd' cd')
          have hW2 : w.heap.size < w2.heap.size := HB2.out.lt
          have hK7 : Keeps (Is w.heap.size) w5 ((w5.setCell ⟨w.heap.size, 11, none⟩ (.slice A' n' c')).setCell ⟨w.heap.size, 13, none⟩ (.slice Ad' nd' cd')) := ((Keeps.refl (Is w.heap.size) _).setCell (p := ⟨w.heap.size, 11, none⟩) (.inl rfl) _).setCell (p := ⟨w.heap.size, 13, none⟩) (.inl rfl) _
          have hb45 := Up.trans hb4 hb5
          have hs4 : w2.heap.size ≤ w4.heap.size := hb4.size
          have hs5 : w4.heap.size ≤ w5.heap.size := hb5.size
          have hN7 := Own.keeps (hownN.up hb5) hK7 (by intro k hk hk2; have : k = w.heap.size := hk2; have hk' : w2.heap.size ≤ k := hk; omega)
          have hD7 := Own.keeps hownD hK7 (by intro k hk hk2; have : k = w.heap.size := hk2; omega)
          have hT7 := ((H.out.up hb02).up (below_of_drew hb45)).keeps hK7 (by intro e; have : g = w.heap.size := e; omega)
          have hb7 : Below w.heap.size w ((w5.setCell ⟨w.heap.size, 11, none⟩ (.slice A' n' c')).setCell ⟨w.heap.size, 13, none⟩ (.slice Ad' nd' cd')) := (Up.trans hb02 (below_of_drew hb45)).trans (hK7.is (Nat.le_refl _) (by omega))
          replace hB7 : Blk ((w5.setCell ⟨w.heap.size, 11, none⟩ (.slice A' n' c')).setCell ⟨w.heap.size, 13, none⟩ (.slice Ad' nd' cd')) w.heap.size 32 [x0, .int .i64 tag, x2, x3, x4, x5, x6, x7, x8, x9, x10, .slice A' n' c', x12, .slice Ad' nd' cd'] := hB7
          have hs7 : w5.heap.size ≤ ((w5.setCell ⟨w.heap.size, 11, none⟩ (.slice A' n' c')).setCell ⟨w.heap.size, 13, none⟩ (.slice Ad' nd' cd')).heap.size := hK7.size
          clear q11 f11 q13 f13 hB5 hB6 hK7 HB2 HBd
          generalize (w5.setCell ⟨w.heap.size, 11, none⟩ (.slice A' n' c')).setCell ⟨w.heap.size, 13, none⟩ (.slice Ad' nd' cd') = W at hN7 hD7 hT7 hb7 hB7 hs7
          have hone : ∀ v ∈ [x0, .int .i64 tag, x2, x3, x4, x5, x6, x7, x8, x9, x10, .slice A' n' c', x12, .slice Ad' nd' cd'], v.oneCell' = true := by
            have := HO.out
            intro v hv
            simp only [List.mem_cons, List.not_mem_nil, or_false] at this hv
            rcases hv with rfl | rfl | rfl | rfl | rfl | rfl | rfl | rfl | rfl | rfl | rfl | rfl | rfl | rfl <;> first | rfl | (apply this; simp)
          have hgA : ¬ Is g w.heap.size := by intro e; have : w.heap.size = g := e; omega
          have kL0 := cell_abv (G := Is g) (hB7.drew.cell 0 _ rfl) hgA
          have kL1 := cell_abv (G := Is g) (hB7.drew.cell 1 _ rfl) hgA
          have kL2 := cell_abv (G := Is g) (hB7.drew.cell 2 _ rfl) hgA
          have kL3 := cell_abv (G := Is g) (hB7.drew.cell 3 _ rfl) hgA
          have kL4 := cell_abv (G := Is g) (hB7.drew.cell 4 _ rfl) hgA
          have kL5 := cell_abv (G := Is g) (hB7.drew.cell 5 _ rfl) hgA
          have kL6 := cell_abv (G := Is g) (hB7.drew.cell 6 _ rfl) hgA
          have kL7 := cell_abv (G := Is g) (hB7.drew.cell 7 _ rfl) hgA
          have kL8 := cell_abv (G := Is g) (hB7.drew.cell 8 _ rfl) hgA
          have kL9 := cell_abv (G := Is g) (hB7.drew.cell 9 _ rfl) hgA
          have kL10 := cell_abv (G := Is g) (hB7.drew.cell 10 _ rfl) hgA
          have kL11 := cell_abv (G := Is g) (hB7.drew.cell 11 _ rfl) hgA
          have kL12 := cell_abv (G := Is g) (hB7.drew.cell 12 _ rfl) hgA
          have kL13 := cell_abv (G := Is g) (hB7.drew.cell 13 _ rfl) hgA
          have kn := hT7.n_at
          have hn8 : n < 8 := by have := H.out.2.2.2.1; omega
          have i0 : (0 : Int) ≤ n := by omega
          have i8 : (n : Int) < 8 := by omega
          go_wp2_with fail
          refine wp_region_tr (Is g) (.t 0 (.t 1 (.t 2 (.t 3 (.t 5 (.t 6 (.t 7 (.s 4 (.t 8 (.s 9 .nil)))))))))) (by kernel_rfl) (by kernel_rfl) ?_
          repeat (refine tr_take (by simp only [List.getElem?_toArray, List.getElem?_cons_succ, List.getElem?_cons_zero]; exact rfl) ?_; go_big_quiet_step (fail); refine wpQuiet_nil ?_)
          refine tr_solo (by simp only [List.getElem?_toArray, List.getElem?_cons_succ, List.getElem?_cons_zero]; exact rfl) ?_
          go_wp2
          refine Solo.mk (Keeps.refl _ _) ?_
          repeat (refine tr_take (by simp only [List.getElem?_toArray, List.getElem?_cons_succ, List.getElem?_cons_zero]; exact rfl) ?_; go_big_quiet_step (fail); refine wpQuiet_nil ?_)
          refine tr_solo (by simp only [List.getElem?_toArray, List.getElem?_cons_succ, List.getElem?_cons_zero]; exact rfl) ?_
          have hBT := hT7.2.2.2.2.drew
          have hl14 : n * 14 + ([x0, .int .i64 tag, x2, x3, x4, x5, x6, x7, x8, x9, x10, .slice A' n' c', x12, .slice Ad' nd' cd'] : List Value).length ≤ (rows.flatten ++ ([.int .i64 n, .int .i64 most] : List Value)).length := by
            have h1 := flat_length hT7.2.1
            have h2 := hT7.1
            rw [List.length_append, h1, h2]
            simp
            omega
          refine wpList_storeMid rfl (.tmp 34) (.tmp 31) rfl rfl [x0, .int .i64 tag, x2, x3, x4, x5, x6, x7, x8, x9, x10, .slice A' n' c', x12, .slice Ad' nd' cd'] rfl rfl (by kernel_rfl) hBT hl14 hone ?_
          refine wpList_nil ?_
          refine Solo.mk (keeps_setRow _ _) ?_
          refine tr_end ?_
          have hT8 : TG (W.drew.setRow g ((rows.flatten ++ ([.int .i64 n, .int .i64 most] : List Value)).take (n * 14) ++ [x0, .int .i64 tag, x2, x3, x4, x5, x6, x7, x8, x9, x10, .slice A' n' c', x12, .slice Ad' nd' cd'] ++ (rows.flatten ++ ([.int .i64 n, .int .i64 most] : List Value)).drop (n * 14 + ([x0, .int .i64 tag, x2, x3, x4, x5, x6, x7, x8, x9, x10, .slice A' n' c', x12, .slice Ad' nd' cd'] : List Value).length)).toArray) g (rows.set n [x0, .int .i64 tag, x2, x3, x4, x5, x6, x7, x8, x9, x10, .slice A' n' c', x12, .slice Ad' nd' cd']) n most := by
            refine ⟨by rw [List.length_set]; exact hT7.1, ?_, hT7.2.2.1, hT7.2.2.2.1, ?_⟩
            · intro r hr
              rcases List.mem_or_eq_of_mem_set hr with h | rfl
              · exact hT7.2.1 r h
              · rfl
            · have h3 := hBT.setRow ((rows.flatten ++ ([.int .i64 n, .int .i64 most] : List Value)).take (n * 14) ++ [x0, .int .i64 tag, x2, x3, x4, x5, x6, x7, x8, x9, x10, .slice A' n' c', x12, .slice Ad' nd' cd'] ++ (rows.flatten ++ ([.int .i64 n, .int .i64 most] : List Value)).drop (n * 14 + ([x0, .int .i64 tag, x2, x3, x4, x5, x6, x7, x8, x9, x10, .slice A' n' c', x12, .slice Ad' nd' cd'] : List Value).length))
              rw [← flat_set hT7.2.1 [.int .i64 n, .int .i64 most] [x0, .int .i64 tag, x2, x3, x4, x5, x6, x7, x8, x9, x10, .slice A' n' c', x12, .slice Ad' nd' cd'] rfl n (by rw [hT7.1]; omega)]
              exact h3
          have hK8 : Keeps (Is g) W (W.drew.setRow g ((rows.flatten ++ ([.int .i64 n, .int .i64 most] : List Value)).take (n * 14) ++ [x0, .int .i64 tag, x2, x3, x4, x5, x6, x7, x8, x9, x10, .slice A' n' c', x12, .slice Ad' nd' cd'] ++ (rows.flatten ++ ([.int .i64 n, .int .i64 most] : List Value)).drop (n * 14 + ([x0, .int .i64 tag, x2, x3, x4, x5, x6, x7, x8, x9, x10, .slice A' n' c', x12, .slice Ad' nd' cd'] : List Value).length)).toArray) := (Keeps.refl _ _).drew.trans (keeps_setRow _ _)
          clear hBT hl14 kL0 kL1 kL2 kL3 kL4 kL5 kL6 kL7 kL8 kL9 kL10 kL11 kL12 kL13 kn hB7
          generalize W.drew.setRow g ((rows.flatten ++ ([.int .i64 n, .int .i64 most] : List Value)).take (n * 14) ++ [x0, .int .i64 tag, x2, x3, x4, x5, x6, x7, x8, x9, x10, .slice A' n' c', x12, .slice Ad' nd' cd'] ++ (rows.flatten ++ ([.int .i64 n, .int .i64 most] : List Value)).drop (n * 14 + ([x0, .int .i64 tag, x2, x3, x4, x5, x6, x7, x8, x9, x10, .slice A' n' c', x12, .slice Ad' nd' cd'] : List Value).length)).toArray = W8 at hT8 hK8
          have kn8 := hT8.n_at
          have fn8 := hT8.2.2.2.2.free 112
          go_wp2
          go_ret
          have hK9 : Keeps (Is g) W (W8.setCell ⟨g, 112, none⟩ (.int .i64 ((n : Int) + 1))) := hK8.setCell (p := ⟨g, 112, none⟩) (.inl rfl) _
          refine .inr (.inr ⟨by omega, by omega, rfl, A', n', c', nm, Ad', nd', cd', ld, hnm, hld, ?_, ?_, ?_, ?_⟩)
          · exact Own.lower (Own.keeps hN7 hK9 (by intro k hk hk2; have : k = g := hk2; have hk' : w2.heap.size ≤ k := hk; omega)) (by show w.heap.size ≤ w2.heap.size; omega)
          · exact Own.lower (Own.keeps hD7 hK9 (by intro k hk hk2; have : k = g := hk2; omega)) (by omega)
          · exact hT8.inc (by omega)
          · exact (Keeps.of_below hb7).trans hK9
      · go_wp2
        refine Solo.mk (Keeps.refl _ _) ?_
        refine tr_solo (by simp only [List.getElem?_toArray, List.getElem?_cons_succ, List.getElem?_cons_zero]; exact rfl) ?_
        go_wp2
        refine Solo.mk (Keeps.refl _ _) ?_
        refine tr_solo (by simp only [List.getElem?_toArray, List.getElem?_cons_succ, List.getElem?_cons_zero]; exact rfl) ?_
        go_wp2_with fail
        refine (cloneS_any An nn cn names _ HN2.out HN1.out hNn).mono ?_
        rintro e w4 ⟨A', n', c', nm, hnm, rfl, hownN, hb4⟩
        have k13' := cell_later hb4 k13
        clear k13
        have k13 := k13'
        clear k13'
        go_wp2
        refine Solo.up hb4 ?_
        repeat (refine tr_take (by simp only [List.getElem?_toArray, List.getElem?_cons_succ, List.getElem?_cons_zero]; exact rfl) ?_; go_big_quiet_step (fail); refine wpQuiet_nil ?_)
        refine tr_solo (by simp only [List.getElem?_toArray, List.getElem?_cons_succ, List.getElem?_cons_zero]; exact rfl) ?_
        clear k13
        go_wp2_with fail
        refine (cloneB_any Ad nd cd data _ (HD2.out.up hb4) (by omega)).mono ?_
        rintro e w5 ⟨Ad', nd', cd', ld, hld, rfl, hownD, hb5⟩
        have hB5 := (HBd.out.up hb4).up hb5
        have q11 := hB5.cell 11 _ rfl
        have f11 := hB5.free 11
        go_wp2
        refine Solo.up hb5 ?_
        refine tr_solo (by simp only [List.getElem?_toArray, List.getElem?_cons_succ, List.getElem?_cons_zero]; exact rfl) ?_
        have hB6 := hB5.set 11 (.slice A' n' c')
        have q13 := hB6.cell 13 _ rfl
        have f13 := hB6.free 13
        go_wp2
        refine Solo.mk ((Keeps.refl (Is w.heap.size) _).setCell (p := ⟨w.heap.size, 11, none⟩) (.inl rfl) _) ?_
        repeat (refine tr_take (by simp only [List.getElem?_toArray, List.getElem?_cons_succ, List.getElem?_cons_zero]; exact rfl) ?_; go_big_quiet_step (fail); refine wpQuiet_nil ?_)
        refine tr_solo (by simp only [List.getElem?_toArray, List.getElem?_cons_succ, List.getElem?_cons_zero]; exact rfl) ?_
        go_wp2
        refine Solo.mk ((Keeps.refl (Is w.heap.size) _).setCell (p := ⟨w.heap.size, 13, none⟩) (.inl rfl) _) ?_
        refine tr_end ?_
        have hB7 := hB6.set 13 (.slice Ad' nd' cd')
        have hW2 : w.heap.size < w2.heap.size := HB2.out.lt
        have hK7 : Keeps (Is w.heap.size) w5 ((w5.setCell ⟨w.heap.size, 11, none⟩ (.slice A' n' c')).setCell ⟨w.heap.size, 13, none⟩ (.slice Ad' nd' cd')) := ((Keeps.refl (Is w.heap.size) _).setCell (p := ⟨w.heap.size, 11, none⟩) (.inl rfl) _).setCell (p := ⟨w.heap.size, 13, none⟩) (.inl rfl) _
        have hb45 := Up.trans hb4 hb5
        have hs4 : w2.heap.size ≤ w4.heap.size := hb4.size
        have hs5 : w4.heap.size ≤ w5.heap.size := hb5.size
        have hN7 := Own.keeps (hownN.up hb5) hK7 (by intro k hk hk2; have : k = w.heap.size := hk2; have hk' : w2.heap.size ≤ k := hk; omega)
        have hD7 := Own.keeps hownD hK7 (by intro k hk hk2; have : k = w.heap.size := hk2; omega)
        have hT7 := ((H.out.up hb02).up (below_of_drew hb45)).keeps hK7 (by intro e; have : g = w.heap.size := e; omega)
        have hb7 : Below w.heap.size w ((w5.setCell ⟨w.heap.size, 11, none⟩ (.slice A' n' c')).setCell ⟨w.heap.size, 13, none⟩ (.slice Ad' nd' cd')) := (Up.trans hb02 (below_of_drew hb45)).trans (hK7.is (Nat.le_refl _) (by omega))
        replace hB7 : Blk ((w5.setCell ⟨w.heap.size, 11, none⟩ (.slice A' n' c')).setCell ⟨w.heap.size, 13, none⟩ (.slice Ad' nd' cd')) w.heap.size 32 [x0, .int .i64 tag, x2, x3, x4, x5, x6, x7, x8, x9, x10, .slice A' n' c', x12, .slice Ad' nd' cd'] := hB7
        have hs7 : w5.heap.size ≤ ((w5.setCell ⟨w.heap.size, 11, none⟩ (.slice A' n' c')).setCell ⟨w.heap.size, 13, none⟩ (.slice Ad' nd' cd')).heap.size := hK7.size
        clear q11 f11 q13 f13 hB5 hB6 hK7 HB2 HBd
        generalize (w5.setCell ⟨w.heap.size, 11, none⟩ (.slice A' n' c')).setCell ⟨w.heap.size, 13, none⟩ (.slice Ad' nd' cd') = W at hN7 hD7 hT7 hb7 hB7 hs7
        have hone : ∀ v ∈ [x0, .int .i64 tag, x2, x3, x4, x5, x6, x7, x8, x9, x10, .slice A' n' c', x12, .slice Ad' nd' cd'], v.oneCell' = true := by
          have := HO.out
          intro v hv
          simp only [List.mem_cons, List.not_mem_nil, or_false] at this hv
          rcases hv with rfl | rfl | rfl | rfl | rfl | rfl | rfl | rfl | rfl | rfl | rfl | rfl | rfl | rfl <;> first | rfl | (apply this; simp)
        have hgA : ¬ Is g w.heap.size := by intro e; have : w.heap.size = g := e; omega
        have kL0 := cell_abv (G := Is g) (hB7.drew.cell 0 _ rfl) hgA
        have kL1 := cell_abv (G := Is g) (hB7.drew.cell 1 _ rfl) hgA
        have kL2 := cell_abv (G := Is g) (hB7.drew.cell 2 _ rfl) hgA
        have kL3 := cell_abv (G := Is g) (hB7.drew.cell 3 _ rfl) hgA
        have kL4 := cell_abv (G := Is g) (hB7.drew.cell 4 _ rfl) hgA
        have kL5 := cell_abv (G := Is g) (hB7.drew.cell 5 _ rfl) hgA
        have kL6 := cell_abv (G := Is g) (hB7.drew.cell 6 _ rfl) hgA
        have kL7 := cell_abv (G := Is g) (hB7.drew.cell 7 _ rfl) hgA
        have kL8 := cell_abv (G := Is g) (hB7.drew.cell 8 _ rfl) hgA
        have kL9 := cell_abv (G := Is g) (hB7.drew.cell 9 _ rfl) hgA
        have kL10 := cell_abv (G := Is g) (hB7.drew.cell 10 _ rfl) hgA
        have kL11 := cell_abv (G := Is g) (hB7.drew.cell 11 _ rfl) hgA
        have kL12 := cell_abv (G := Is g) (hB7.drew.cell 12 _ rfl) hgA
        have kL13 := cell_abv (G := Is g) (hB7.drew.cell 13 _ rfl) hgA
        have kn := hT7.n_at
        have hn8 : n < 8 := by have := H.out.2.2.2.1; omega
        have i0 : (0 : Int) ≤ n := by omega
        have i8 : (n : Int) < 8 := by omega
        go_wp2_with fail
        refine wp_region_tr (Is g) (.t 0 (.t 1 (.t 2 (.t 3 (.t 5 (.t 6 (.t 7 (.s 4 (.t 8 (.s 9 .nil)))))))))) (by kernel_rfl) (by kernel_rfl) ?_
        repeat (refine tr_take (by simp only [List.getElem?_toArray, List.getElem?_cons_succ, List.getElem?_cons_zero]; exact rfl) ?_; go_big_quiet_step (fail); refine wpQuiet_nil ?_)
        refine tr_solo (by simp only [List.getElem?_toArray, List.getElem?_cons_succ, List.getElem?_cons_zero]; exact rfl) ?_
        go_wp2
        refine Solo.mk (Keeps.refl _ _) ?_
        repeat (refine tr_take (by simp only [List.getElem?_toArray, List.getElem?_cons_succ, List.getElem?_cons_zero]; exact rfl) ?_; go_big_quiet_step (fail); refine wpQuiet_nil ?_)
        refine tr_solo (by simp only [List.getElem?_toArray, List.getElem?_cons_succ, List.getElem?_cons_zero]; exact rfl) ?_
        have hBT := hT7.2.2.2.2.drew
        have hl14 : n * 14 + ([x0, .int .i64 tag, x2, x3, x4, x5, x6, x7, x8, x9, x10, .slice A' n' c', x12, .slice Ad' nd' cd'] : List Value).length ≤ (rows.flatten ++ ([.int .i64 n, .int .i64 most] : List Value)).length := by
          have h1 := flat_length hT7.2.1
          have h2 := hT7.1
          rw [List.length_append, h1, h2]
          simp
          omega
        refine wpList_storeMid rfl (.tmp 34) (.tmp 31) rfl rfl [x0, .int .i64 tag, x2, x3, x4, x5, x6, x7, x8, x9, x10, .slice A' n' c', x12, .slice Ad' nd' cd'] rfl rfl (by kernel_rfl) hBT hl14 hone ?_
        refine wpList_nil ?_
        refine Solo.mk (keeps_setRow _ _) ?_
        refine tr_end ?_
        have hT8 : TG (W.drew.setRow g ((rows.flatten ++ ([.int .i64 n, .int .i64 most] : List Value)).take (n * 14) ++ [x0, .int .i64 tag, x2, x3, x4, x5, x6, x7, x8, x9, x10, .slice A' n' c', x12, .slice Ad' nd' cd'] ++ (rows.flatten ++ ([.int .i64 n, .int .i64 most] : List Value)).drop (n * 14 + ([x0, .int .i64 tag, x2, x3, x4, x5, x6, x7, x8, x9, x10, .slice A' n' c', x12, .slice Ad' nd' cd'] : List Value).length)).toArray) g (rows.set n [x0, .int .i64 tag, x2, x3, x4, x5, x6, x7, x8, x9, x10, .slice A' n' c', x12, .slice Ad' nd' cd']) n most := by
          refine ⟨by rw [List.length_set]; exact hT7.1, ?_, hT7.2.2.1, hT7.2.2.2.1, ?_⟩
          · intro r hr
            rcases List.mem_or_eq_of_mem_set hr with h | rfl
            · exact hT7.2.1 r h
            · rfl
          · have h3 := hBT.setRow ((rows.flatten ++ ([.int .i64 n, .int .i64 most] : List Value)).take (n * 14) ++ [x0, .int .i64 tag, x2, x3, x4, x5, x6, x7, x8, x9, x10, .slice A' n' c', x12, .slice Ad' nd' cd'] ++ (rows.flatten ++ ([.int .i64 n, .int .i64 most] : List Value)).drop (n * 14 + ([x0, .int .i64 tag, x2, x3, x4, x5, x6, x7, x8, x9, x10, .slice A' n' c', x12, .slice Ad' nd' cd'] : List Value).length))
            rw [← flat_set hT7.2.1 [.int .i64 n, .int .i64 most] [x0, .int .i64 tag, x2, x3, x4, x5, x6, x7, x8, x9, x10, .slice A' n' c', x12, .slice Ad' nd' cd'] rfl n (by rw [hT7.1]; omega)]
            exact h3
        have hK8 : Keeps (Is g) W (W.drew.setRow g ((rows.flatten ++ ([.int .i64 n, .int .i64 most] : List Value)).take (n * 14) ++ [x0, .int .i64 tag, x2, x3, x4, x5, x6, x7, x8, x9, x10, .slice A' n' c', x12, .slice Ad' nd' cd'] ++ (rows.flatten ++ ([.int .i64 n, .int .i64 most] : List Value)).drop (n * 14 + ([x0, .int .i64 tag, x2, x3, x4, x5, x6, x7, x8, x9, x10, .slice A' n' c', x12, .slice Ad' nd' cd'] : List Value).length)).toArray) := (Keeps.refl _ _).drew.trans (keeps_setRow _ _)
        clear hBT hl14 kL0 kL1 kL2 kL3 kL4 kL5 kL6 kL7 kL8 kL9 kL10 kL11 kL12 kL13 kn hB7
        generalize W.drew.setRow g ((rows.flatten ++ ([.int .i64 n, .int .i64 most] : List Value)).take (n * 14) ++ [x0, .int .i64 tag, x2, x3, x4, x5, x6, x7, x8, x9, x10, .slice A' n' c', x12, .slice Ad' nd' cd'] ++ (rows.flatten ++ ([.int .i64 n, .int .i64 most] : List Value)).drop (n * 14 + ([x0, .int .i64 tag, x2, x3, x4, x5, x6, x7, x8, x9, x10, .slice A' n' c', x12, .slice Ad' nd' cd'] : List Value).length)).toArray = W8 at hT8 hK8
        have kn8 := hT8.n_at
        have fn8 := hT8.2.2.2.2.free 112
        go_wp2
        go_ret
        have hK9 : Keeps (Is g) W (W8.setCell ⟨g, 112, none⟩ (.int .i64 ((n : Int) + 1))) := hK8.setCell (p := ⟨g, 112, none⟩) (.inl rfl) _
        refine .inr (.inr ⟨by omega, by omega, rfl, A', n', c', nm, Ad', nd', cd', ld, hnm, hld, ?_, ?_, ?_, ?_⟩)
        · exact Own.lower (Own.keeps hN7 hK9 (by intro k hk hk2; have : k = g := hk2; have hk' : w2.heap.size ≤ k := hk; omega)) (by show w.heap.size ≤ w2.heap.size; omega)
        · exact Own.lower (Own.keeps hD7 hK9 (by intro k hk hk2; have : k = g := hk2; omega)) (by omega)
        · exact hT8.inc (by omega)
        · exact (Keeps.of_below hb7).trans hK9
end Go.Proofs.Ytgogdgpdkkbfhaa
