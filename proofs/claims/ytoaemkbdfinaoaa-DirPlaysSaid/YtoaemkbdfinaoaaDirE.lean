/-
  Layer 11: New, Len, Put.
-/
import Derived.Test.YtoaemkbdfinaoaaDirD
namespace Go.Proofs.Ytoaemkbdfinaoaa
open Go.RowKit
set_option linter.unusedVariables false
set_option linter.unusedSimpArgs false

/-- The blocks of a directory. -/
def DrG (g : Nat) (A : Option Addr) : Nat → Prop := fun k => k = g ∨ InBlk A k
theorem Dr.ne {w : World} {g : Nat} {A : Option Addr} {n c : Nat} {es : List EntI} (h : Dr w g A n c es) : ¬ InBlk A g := by
  rcases h.o.2.2.2 with ⟨hv, _⟩ | ⟨g', cap, cur, fz, hv, _, hh, _⟩
  · injection hv with h1; subst h1; intro e; cases e
  · injection hv with h1; subst h1
    intro e
    have e' : g' = g := by simpa [InBlk] using e
    subst e'
    have hb := h.b
    unfold Blk at hb
    rw [hb] at hh
    injection hh with hh
    injection hh with _ h2 _
    exact absurd h2 (by decide)
theorem Dr.in_lt {w : World} {g : Nat} {A : Option Addr} {n c : Nat} {es : List EntI} (h : Dr w g A n c es) (k : Nat) (hk : InBlk A k) : k < w.heap.size := by
  refine (Own.lt h.o.2.2 k ?_).2
  cases A with
  | none => cases hk
  | some a =>
    have : a.block = k := by simpa [InBlk] using hk
    simp [Value.ownBlock, this]
/-- A directory after something done: its entries, what was turned. -/
def DrPost (g : Nat) (A : Option Addr) (es : List EntI) (w w' : World) : Prop :=
  ∃ (A' : Option Addr) (n' c' : Nat), Dr w' g A' n' c' es ∧ Keeps (DrG g A) w w' ∧ (A' = A ∨ ∃ b, A' = some ⟨b, 0, none⟩ ∧ w.heap.size ≤ b)
theorem DrPost.same {w w' : World} {g : Nat} {A : Option Addr} {n c : Nat} {es : List EntI} (h : Dr w g A n c es) (k : Below w.heap.size w w') : DrPost g A es w w' := ⟨A, n, c, h.up k, .of_below k, .inl rfl⟩

theorem new_any (w : World) : Calls Try.prog 8 #[] w fun x w' => x = .returned (.pointer (some ⟨w.heap.size, 0, none⟩)) ∧ Dr w' w.heap.size none 0 0 [] ∧ Below w.heap.size w w' := by
  have hB := Blk.new w 65 [.slice none 0 0]
  have Hb : Hid (Below w.heap.size w (w.alloc (.cells #[.slice none 0 0] 65))) := Lib.hid ((Below.refl _ _).alloc (Nat.le_refl _) _)
  have HB := Lib.hid hB
  clear hB
  go_enter Try.func8, Try.ntmps8
  go_wp2
  go_ret
  exact ⟨rfl, ⟨HB.out, OwR.nil _ _ _ _, fun i j a b h => by simp at h⟩, Hb.out⟩

theorem len_any (g : Nat) (A : Option Addr) (n c : Nat) (es : List EntI) (w : World) (h : Dr w g A n c es) :
    Calls Try.prog 30 #[.pointer (some ⟨g, 0, none⟩)] w fun x w' => x = .returned (.int .i64 n) ∧ w = w' := by
  have c0 := h.b.cell 0 _ rfl
  clear h
  go_enter Try.func30, Try.ntmps30
  go_wp2
  go_ret
  exact ⟨rfl, rfl⟩

/-! ### Put -/
def putE (es : List EntI) (s : List UInt8) (i g : Int) : List EntI × Int :=
  if isName s = false then (es, 16) else if hasN es s = true then (es, 10) else (insE es (posN es s) (s, i, g), 0)
theorem Own.keepGI {w w' : World} {base k n c : Nat} {e : TypeId} {A : Option Addr} {rs : List (List Value)} {G : Nat → Prop} (h : OwR w base e k A n c rs) (hk : Keeps G w w') (hG : ∀ b, InBlk A b → ¬ G b) : OwR w' base e k A n c rs := by
  refine ⟨h.1, h.2.1, h.2.2.1, ?_⟩
  rcases h.2.2.2 with h2 | ⟨g, cap, cur, fz, hv, hbg, hh, r⟩
  · exact .inl h2
  · refine .inr ⟨g, cap, cur, fz, hv, hbg, ?_, r⟩
    injection hv with h1
    subst h1
    rw [hk.block g (Array.getElem?_eq_some_iff.1 hh).1 (hG g rfl)]
    exact hh
theorem posN_le (es : List EntI) (s : List UInt8) : posN es s ≤ es.length := by
  unfold posN; exact (List.takeWhile_prefix _).length_le
theorem posN_low (es : List EntI) (s : List UInt8) : ∀ (k : Nat) (a : EntI), k < posN es s → es[k]? = some a → lessB a.1 s = true := by
  induction es with
  | nil => intro k a _ h; simp at h
  | cons e es ih =>
    intro k a hk ha
    unfold posN at hk ih
    by_cases he : lessB e.1 s = true
    · rw [List.takeWhile_cons_of_pos (by simpa using he)] at hk
      cases k with
      | zero => simp at ha; subst ha; exact he
      | succ k => exact ih k a (by simpa using hk) (by simpa using ha)
    · rw [List.takeWhile_cons_of_neg (by simpa using he)] at hk
      simp at hk
theorem posN_at (es : List EntI) (s : List UInt8) : ∀ (a : EntI), es[posN es s]? = some a → lessB a.1 s = false := by
  induction es with
  | nil => intro a h; simp at h
  | cons e es ih =>
    intro a ha
    unfold posN at ha ih
    by_cases he : lessB e.1 s = true
    · rw [List.takeWhile_cons_of_pos (by simpa using he)] at ha
      exact ih a (by simpa using ha)
    · rw [List.takeWhile_cons_of_neg (by simpa using he)] at ha
      simp at ha; subst ha; simpa using he
theorem Srt.tail {e : EntI} {es : List EntI} (h : Srt (e :: es)) : Srt es := fun i j a b ha hb hij => h (i + 1) (j + 1) a b (by simpa using ha) (by simpa using hb) (by omega)
theorem srt_ins (es : List EntI) (s : List UInt8) (h : Int × Int) (hs : Srt es) (hn : hasN es s = false) : Srt (insE es (posN es s) (s, h)) := by
  have hlow := posN_low es s
  have hat := posN_at es s
  have hle := posN_le es s
  have hge : ∀ (k : Nat) (a : EntI), posN es s ≤ k → es[k]? = some a → lessB s a.1 = true := by
    intro k a hk ha
    have hne : a.1 ≠ s := fun e => by
      have : hasN es s = true := by unfold hasN; rw [List.any_eq_true]; exact ⟨a, List.mem_of_getElem? ha, by simp [e]⟩
      rw [hn] at this; cases this
    have hnl : lessB a.1 s = false := by
      rcases Nat.eq_or_lt_of_le hk with e | h
      · exact hat a (by rw [e]; exact ha)
      · have hpl : posN es s < es.length := by have := (List.getElem?_eq_some_iff.1 ha).1; omega
        rcases hb : lessB a.1 s with _ | _
        · rfl
        · have h1 := hs (posN es s) k _ a (List.getElem?_eq_getElem hpl) ha h
          have := hat _ (List.getElem?_eq_getElem hpl)
          rw [less_trans _ _ _ h1 hb] at this; cases this
    exact less_total _ _ hnl hne
  obtain ⟨p, hp⟩ : ∃ p, p = posN es s := ⟨_, rfl⟩
  rw [← hp] at hlow hle hge ⊢
  have at_ : ∀ k a, (insE es p (s, h))[k]? = some a → (k < p ∧ es[k]? = some a) ∨ (k = p ∧ a = (s, h)) ∨ (p < k ∧ es[k - 1]? = some a) := by
    intro k a hk
    unfold insE at hk
    rcases Nat.lt_trichotomy k p with h1 | h1 | h1
    · rw [List.getElem?_append_left (by rw [List.length_take]; omega), List.getElem?_take, if_pos h1] at hk
      exact .inl ⟨h1, hk⟩
    · rw [List.getElem?_append_right (by rw [List.length_take]; omega), List.length_take, show k - min p es.length = 0 by omega] at hk
      exact .inr (.inl ⟨h1, by simpa using hk.symm⟩)
    · rw [List.getElem?_append_right (by rw [List.length_take]; omega), List.length_take, show k - min p es.length = (k - p - 1) + 1 by omega, List.getElem?_cons_succ, List.getElem?_drop, show p + (k - p - 1) = k - 1 by omega] at hk
      exact .inr (.inr ⟨h1, hk⟩)
  intro i j a b ha hb hij
  rcases at_ i a ha with ⟨h1, h2⟩ | ⟨h1, rfl⟩ | ⟨h1, h2⟩ <;> rcases at_ j b hb with ⟨k1, k2⟩ | ⟨k1, rfl⟩ | ⟨k1, k2⟩
  · exact hs i j a b h2 k2 hij
  · exact hlow i a h1 h2
  · exact hs i (j - 1) a b h2 k2 (by omega)
  · omega
  · omega
  · exact hge (j - 1) b (by omega) k2
  · omega
  · omega
  · exact hs (i - 1) (j - 1) a b h2 k2 (by omega)

def PutPost (g : Nat) (A : Option Addr) (es : List EntI) (er : Int) (w : World) (x : Ending) (w' : World) : Prop := x = .returned (.int .i64 er) ∧ DrPost g A es w w'
set_option maxRecDepth 20000 in
set_option maxHeartbeats 4000000 in
theorem put_any (g : Nat) (A : Option Addr) (n c : Nat) (es : List EntI) (s : List UInt8) (ino gen : Int) (w : World) (h : Dr w g A n c es) (hn : n ≤ 1000) (hs : s.length ≤ 65536) :
    Calls Try.prog 11 #[.pointer (some ⟨g, 0, none⟩), .string (st s), .agg #[.int .i64 ino, .int .i64 gen]] w (PutPost g A (putE es s ino gen).1 (putE es s ino gen).2 w) := by
  obtain ⟨W, hW⟩ : ∃ W, W = w.alloc (.cells #[.int .i64 ino, .int .i64 gen] 31) := ⟨_, rfl⟩
  have hB : Blk W w.heap.size 31 [.int .i64 ino, .int .i64 gen] := by rw [hW]; exact Blk.new w 31 [.int .i64 ino, .int .i64 gen]
  have hb : Below w.heap.size w W := by rw [hW]; exact (Below.refl _ _).alloc (Nat.le_refl _) _
  have HB := Lib.hid hB
  have Hb := Lib.hid hb
  have H := Lib.hid (h.up hb)
  have HW := Lib.hid hW
  have H0 := Lib.hid h
  obtain ⟨R, hR⟩ : ∃ R, R = putE es s ino gen := ⟨_, rfl⟩
  rw [← hR]
  have HRE := Lib.hid hR
  clear hB hb hW h hR
  go_enter Try.func11, Try.ntmps11
  go_upto_region 1 with fail
  rw [← HW.out]
  go_wp2_with fail
  refine (name_any s _ hs).mono ?_
  rintro e w1 ⟨rfl, rfl⟩
  rcases hnm : isName s with _ | _
  · have HRR := Lib.hid (show R = (es, 16) by rw [HRE.out]; exact if_pos hnm)
    clear hnm
    go_wp2
    go_ret
    exact ⟨by rw [HRR.out]; rfl, by rw [HRR.out]; exact DrPost.same H0.out Hb.out⟩
  have HNM := Lib.hid hnm
  clear hnm
  go_wp2_with fail
  refine (find_any g A n c es s _ H.out (by omega)).mono ?_
  rintro e w1 ⟨i, b, hi, hbn, rfl, hb1⟩
  have H1 := Lib.hid (H.out.up hb1)
  have HB1 := Lib.hid (HB.out.up hb1)
  have Hb1 := Lib.hid (Up.trans' Hb.out hb1)
  clear hb1
  rcases b with _ | _
  case true =>
    have HRR := Lib.hid (show R = (es, 10) by rw [HRE.out]; unfold putE; rw [HNM.out, if_neg (by simp), if_pos hbn.out.symm])
    go_wp2
    go_ret
    exact ⟨by rw [HRR.out]; rfl, by rw [HRR.out]; exact DrPost.same H0.out Hb1.out⟩
  case false =>
    have HRR := Lib.hid (show R = (insE es i (s, ino, gen), 0) by rw [HRE.out]; unfold putE; rw [HNM.out, if_neg (by simp), if_neg (by rw [← hbn.out]; simp), ← hi.out])
    have HI := Lib.hid (show i ≤ n by rw [hi.out, ← H1.out.len]; exact posN_le _ _)
    have HS := Lib.hid (show Srt (insE es i (s, ino, gen)) by rw [hi.out]; exact srt_ins es s (ino, gen) H1.out.s hbn.out.symm)
    go_upto_region 6 with fail
    have H2 := Lib.hid H1.out.drew
    have HB2 := Lib.hid HB1.out.drew
    have k0 := cell_abv (G := DrG g A) (HB2.out.cell 0 _ rfl) (fun e => by
      rcases e with e | e
      · have := H0.out.b.lt; omega
      · have := H0.out.in_lt _ e; omega)
    have k1 := cell_abv (G := DrG g A) (HB2.out.cell 1 _ rfl) (fun e => by
      rcases e with e | e
      · have := H0.out.b.lt; omega
      · have := H0.out.in_lt _ e; omega)
    have d0 := H2.out.b.cell 0 _ rfl
    refine wp_region_tr (DrG g A) (.t 0 (.t 1 (.t 2 (.t 3 (.t 5 (.t 6 (.t 7 (.b 4 (.s 8 (.s 9 (.s 10 (.t 11 (.t 12 (.s 13 .nil)))))) 8 (.b 4 (.s 9 (.s 10 (.t 11 (.t 12 (.s 13 .nil))))) 9 (.s 4 (.s 10 (.t 11 (.t 12 (.s 13 .nil)))))))))))))) (by kernel_rfl) (by kernel_rfl) ?_
    repeat (refine tr_take (by simp only [List.getElem?_toArray, List.getElem?_cons_succ, List.getElem?_cons_zero]; exact rfl) ?_; go_big_quiet_step (fail); refine wpQuiet_nil ?_)
    clear k0 k1
    refine tr_both (by simp only [List.getElem?_toArray, List.getElem?_cons_succ, List.getElem?_cons_zero]; exact rfl) (by simp only [List.getElem?_toArray, List.getElem?_cons_succ, List.getElem?_cons_zero]; exact rfl) ?_ ?_
    · go_wp2
      refine Solo.mk (Keeps.refl _ _) ?_
      clear d0
      refine tr_solo (by simp only [List.getElem?_toArray, List.getElem?_cons_succ, List.getElem?_cons_zero]; exact rfl) ?_
      go_wp2
      refine Solo.mk (Keeps.refl _ _) ?_
      refine tr_solo (by simp only [List.getElem?_toArray, List.getElem?_cons_succ, List.getElem?_cons_zero]; exact rfl) ?_
      go_wp2
      refine Solo.up ((Below.refl _ _).alloc (Nat.le_refl _) _) ?_
      refine tr_solo (by simp only [List.getElem?_toArray, List.getElem?_cons_succ, List.getElem?_cons_zero]; exact rfl) ?_
      have HV := Lib.hid (show Blk (w1.drew.alloc (.cells #[.string (st s), .int .i64 ino, .int .i64 gen] 42)) w1.drew.heap.size 42 (eiC (s, ino, gen)) from Blk.new w1.drew 42 (eiC (s, ino, gen)))
      have H3 := Lib.hid (H2.out.up ((Below.refl _ w1.drew).alloc (Nat.le_refl _) (.cells #[.string (st s), .int .i64 ino, .int .i64 gen] 42)))
      have HBA : Hid (Below w1.drew.heap.size w1.drew (w1.drew.alloc (.cells #[.string (st s), .int .i64 ino, .int .i64 gen] 42))) := Lib.hid ((Below.refl _ _).alloc (Nat.le_refl _) _)
      go_wp2_with fail
      refine (insert_any A n c i es (s, ino, gen) w1.drew.heap.size _ H3.out.o HV.out (fun e => by have := H2.out.in_lt _ e; omega) HI.out hn).mono ?_
      rintro e w3 ⟨A', n', c', rfl, ho3, hk3, hf3⟩
      have HO3 := Lib.hid ho3
      have HK3 := Lib.hid hk3
      have hb3 := H3.out.b.keeps hk3 H3.out.ne
      have x0 := hb3.cell 0 _ rfl
      have f0 := hb3.free 0
      have hKs : Keeps (DrG g A) (w1.drew.alloc (.cells #[.string (st s), .int .i64 ino, .int .i64 gen] 42)) w3 := hk3.mono (fun k _ e => .inr e)
      have HF3 := Lib.hid hf3
      clear ho3 hk3 hf3
      go_wp2
      refine Solo.mk hKs ?_
      clear hKs
      repeat (refine tr_take (by simp only [List.getElem?_toArray, List.getElem?_cons_succ, List.getElem?_cons_zero]; exact rfl) ?_; go_big_quiet_step (fail); refine wpQuiet_nil ?_)
      refine tr_solo (by simp only [List.getElem?_toArray, List.getElem?_cons_succ, List.getElem?_cons_zero]; exact rfl) ?_
      have HB4 := Lib.hid (show Blk (w3.setCell ⟨g, 0, none⟩ (.slice A' n' c')) g 65 [.slice A' n' c'] from hb3.set 0 _)
      have hks : Keeps (Is g) w3 (w3.setCell ⟨g, 0, none⟩ (.slice A' n' c')) := (Keeps.refl (Is g) _).setCell (p := ⟨g, 0, none⟩) (.inl rfl) _
      have HO4 := Lib.hid (Own.keepGI HO3.out hks (fun b hb e => by
        have e' : b = g := e
        rcases HF3.out with hA | ⟨b', hA, hb'⟩
        · subst hA; exact H3.out.ne (by rw [← e']; exact hb)
        · subst hA
          have : b' = b := by simpa [InBlk] using hb
          have := H3.out.b.lt
          omega))
      have HKs := Lib.hid (hks.mono (G' := DrG g A) (fun k _ e => .inl e))
      clear hb3 hks
      go_wp2
      refine Solo.mk HKs.out ?_
      refine tr_end ?_
      clear x0 f0
      generalize w3.setCell ⟨g, 0, none⟩ (.slice A' n' c') = w4 at HB4 HO4 HKs ⊢
      go_wp2
      go_ret
      refine ⟨by rw [HRR.out]; rfl, ?_⟩
      rw [HRR.out]
      have hKA : Keeps (DrG g A) w (w1.drew.alloc (.cells #[.string (st s), .int .i64 ino, .int .i64 gen] 42)) := (Keeps.of_below Hb1.out.drew).trans (Keeps.of_below HBA.out)
      refine ⟨A', n', c', ⟨HB4.out, HO4.out, HS.out⟩, (hKA.trans (HK3.out.mono (fun k _ e => .inr e))).trans HKs.out, ?_⟩
      rcases HF3.out with hA | ⟨b', hA, hb'⟩
      · exact .inl hA
      · exact .inr ⟨b', hA, by have := hKA.size; omega⟩
      
    · go_wp2
      refine Solo.mk (Keeps.refl _ _) ?_
      refine tr_both (by simp only [List.getElem?_toArray, List.getElem?_cons_succ, List.getElem?_cons_zero]; exact rfl) (by simp only [List.getElem?_toArray, List.getElem?_cons_succ, List.getElem?_cons_zero]; exact rfl) ?_ ?_
      · go_wp2
        refine Solo.mk (Keeps.refl _ _) ?_
        clear d0
        refine tr_solo (by simp only [List.getElem?_toArray, List.getElem?_cons_succ, List.getElem?_cons_zero]; exact rfl) ?_
        go_wp2
        refine Solo.up ((Below.refl _ _).alloc (Nat.le_refl _) _) ?_
        refine tr_solo (by simp only [List.getElem?_toArray, List.getElem?_cons_succ, List.getElem?_cons_zero]; exact rfl) ?_
        have HV := Lib.hid (show Blk (w1.drew.alloc (.cells #[.string (st s), .int .i64 ino, .int .i64 gen] 42)) w1.drew.heap.size 42 (eiC (s, ino, gen)) from Blk.new w1.drew 42 (eiC (s, ino, gen)))
        have H3 := Lib.hid (H2.out.up ((Below.refl _ w1.drew).alloc (Nat.le_refl _) (.cells #[.string (st s), .int .i64 ino, .int .i64 gen] 42)))
        have HBA : Hid (Below w1.drew.heap.size w1.drew (w1.drew.alloc (.cells #[.string (st s), .int .i64 ino, .int .i64 gen] 42))) := Lib.hid ((Below.refl _ _).alloc (Nat.le_refl _) _)
        go_wp2_with fail
        refine (insert_any A n c i es (s, ino, gen) w1.drew.heap.size _ H3.out.o HV.out (fun e => by have := H2.out.in_lt _ e; omega) HI.out hn).mono ?_
        rintro e w3 ⟨A', n', c', rfl, ho3, hk3, hf3⟩
        have HO3 := Lib.hid ho3
        have HK3 := Lib.hid hk3
        have hb3 := H3.out.b.keeps hk3 H3.out.ne
        have x0 := hb3.cell 0 _ rfl
        have f0 := hb3.free 0
        have hKs : Keeps (DrG g A) (w1.drew.alloc (.cells #[.string (st s), .int .i64 ino, .int .i64 gen] 42)) w3 := hk3.mono (fun k _ e => .inr e)
        have HF3 := Lib.hid hf3
        clear ho3 hk3 hf3
        go_wp2
        refine Solo.mk hKs ?_
        clear hKs
        repeat (refine tr_take (by simp only [List.getElem?_toArray, List.getElem?_cons_succ, List.getElem?_cons_zero]; exact rfl) ?_; go_big_quiet_step (fail); refine wpQuiet_nil ?_)
        refine tr_solo (by simp only [List.getElem?_toArray, List.getElem?_cons_succ, List.getElem?_cons_zero]; exact rfl) ?_
        have HB4 := Lib.hid (show Blk (w3.setCell ⟨g, 0, none⟩ (.slice A' n' c')) g 65 [.slice A' n' c'] from hb3.set 0 _)
        have hks : Keeps (Is g) w3 (w3.setCell ⟨g, 0, none⟩ (.slice A' n' c')) := (Keeps.refl (Is g) _).setCell (p := ⟨g, 0, none⟩) (.inl rfl) _
        have HO4 := Lib.hid (Own.keepGI HO3.out hks (fun b hb e => by
          have e' : b = g := e
          rcases HF3.out with hA | ⟨b', hA, hb'⟩
          · subst hA; exact H3.out.ne (by rw [← e']; exact hb)
          · subst hA
            have : b' = b := by simpa [InBlk] using hb
            have := H3.out.b.lt
            omega))
        have HKs := Lib.hid (hks.mono (G' := DrG g A) (fun k _ e => .inl e))
        clear hb3 hks
        go_wp2
        refine Solo.mk HKs.out ?_
        refine tr_end ?_
        clear x0 f0
        generalize w3.setCell ⟨g, 0, none⟩ (.slice A' n' c') = w4 at HB4 HO4 HKs ⊢
        go_wp2
        go_ret
        refine ⟨by rw [HRR.out]; rfl, ?_⟩
        rw [HRR.out]
        have hKA : Keeps (DrG g A) w (w1.drew.alloc (.cells #[.string (st s), .int .i64 ino, .int .i64 gen] 42)) := (Keeps.of_below Hb1.out.drew).trans (Keeps.of_below HBA.out)
        refine ⟨A', n', c', ⟨HB4.out, HO4.out, HS.out⟩, (hKA.trans (HK3.out.mono (fun k _ e => .inr e))).trans HKs.out, ?_⟩
        rcases HF3.out with hA | ⟨b', hA, hb'⟩
        · exact .inl hA
        · exact .inr ⟨b', hA, by have := hKA.size; omega⟩
      · clear d0
        go_wp2
        refine Solo.up ((Below.refl _ _).alloc (Nat.le_refl _) _) ?_
        have d0' : (w1.alloc (.cells #[.string (st s), .int .i64 ino, .int .i64 gen] 42)).drew.cell? ⟨g, 0, none⟩ = some (.slice A n c) := ((H2.out.up ((Below.refl _ w1.drew).alloc (Nat.le_refl _) (.cells #[.string (st s), .int .i64 ino, .int .i64 gen] 42))).b).cell 0 _ rfl
        refine tr_solo (by simp only [List.getElem?_toArray, List.getElem?_cons_succ, List.getElem?_cons_zero]; exact rfl) ?_
        go_wp2
        refine Solo.mk (Keeps.refl _ _) ?_
        clear d0'
        refine tr_solo (by simp only [List.getElem?_toArray, List.getElem?_cons_succ, List.getElem?_cons_zero]; exact rfl) ?_
        have HV := Lib.hid (show Blk (w1.drew.alloc (.cells #[.string (st s), .int .i64 ino, .int .i64 gen] 42)) w1.drew.heap.size 42 (eiC (s, ino, gen)) from Blk.new w1.drew 42 (eiC (s, ino, gen)))
        have H3 := Lib.hid (H2.out.up ((Below.refl _ w1.drew).alloc (Nat.le_refl _) (.cells #[.string (st s), .int .i64 ino, .int .i64 gen] 42)))
        have HBA : Hid (Below w1.drew.heap.size w1.drew (w1.drew.alloc (.cells #[.string (st s), .int .i64 ino, .int .i64 gen] 42))) := Lib.hid ((Below.refl _ _).alloc (Nat.le_refl _) _)
        go_wp2_with fail
        refine (insert_any A n c i es (s, ino, gen) w1.drew.heap.size _ H3.out.o HV.out (fun e => by have := H2.out.in_lt _ e; omega) HI.out hn).mono ?_
        rintro e w3 ⟨A', n', c', rfl, ho3, hk3, hf3⟩
        have HO3 := Lib.hid ho3
        have HK3 := Lib.hid hk3
        have hb3 := H3.out.b.keeps hk3 H3.out.ne
        have x0 := hb3.cell 0 _ rfl
        have f0 := hb3.free 0
        have hKs : Keeps (DrG g A) (w1.drew.alloc (.cells #[.string (st s), .int .i64 ino, .int .i64 gen] 42)) w3 := hk3.mono (fun k _ e => .inr e)
        have HF3 := Lib.hid hf3
        clear ho3 hk3 hf3
        go_wp2
        refine Solo.mk hKs ?_
        clear hKs
        repeat (refine tr_take (by simp only [List.getElem?_toArray, List.getElem?_cons_succ, List.getElem?_cons_zero]; exact rfl) ?_; go_big_quiet_step (fail); refine wpQuiet_nil ?_)
        refine tr_solo (by simp only [List.getElem?_toArray, List.getElem?_cons_succ, List.getElem?_cons_zero]; exact rfl) ?_
        have HB4 := Lib.hid (show Blk (w3.setCell ⟨g, 0, none⟩ (.slice A' n' c')) g 65 [.slice A' n' c'] from hb3.set 0 _)
        have hks : Keeps (Is g) w3 (w3.setCell ⟨g, 0, none⟩ (.slice A' n' c')) := (Keeps.refl (Is g) _).setCell (p := ⟨g, 0, none⟩) (.inl rfl) _
        have HO4 := Lib.hid (Own.keepGI HO3.out hks (fun b hb e => by
          have e' : b = g := e
          rcases HF3.out with hA | ⟨b', hA, hb'⟩
          · subst hA; exact H3.out.ne (by rw [← e']; exact hb)
          · subst hA
            have : b' = b := by simpa [InBlk] using hb
            have := H3.out.b.lt
            omega))
        have HKs := Lib.hid (hks.mono (G' := DrG g A) (fun k _ e => .inl e))
        clear hb3 hks
        go_wp2
        refine Solo.mk HKs.out ?_
        refine tr_end ?_
        clear x0 f0
        generalize w3.setCell ⟨g, 0, none⟩ (.slice A' n' c') = w4 at HB4 HO4 HKs ⊢
        go_wp2
        go_ret
        refine ⟨by rw [HRR.out]; rfl, ?_⟩
        rw [HRR.out]
        have hKA : Keeps (DrG g A) w (w1.drew.alloc (.cells #[.string (st s), .int .i64 ino, .int .i64 gen] 42)) := (Keeps.of_below Hb1.out.drew).trans (Keeps.of_below HBA.out)
        refine ⟨A', n', c', ⟨HB4.out, HO4.out, HS.out⟩, (hKA.trans (HK3.out.mono (fun k _ e => .inr e))).trans HKs.out, ?_⟩
        rcases HF3.out with hA | ⟨b', hA, hb'⟩
        · exact .inl hA
        · exact .inr ⟨b', hA, by have := hKA.size; omega⟩
        
end Go.Proofs.Ytoaemkbdfinaoaa
