/-
  tell's writer: bound, number, text.
  tell's writer: number, text.
  tell's writer: qid, qids, stat.
  tell's writer: qids.
  tell's writer: stat; parts.
  tell's writer: part.
-/
import Derived.Test.YtoplkglnjgllnaaTrB
import Derived.Test.YtoplkglnjgllnaaTrA
import Derived.ScopeJumps
import Derived.WalkMore
namespace Go.Proofs.Ytoplkglnjgllnaa
open Go.RowKit
set_option linter.unusedVariables false
set_option linter.unusedSimpArgs false

/-- The writer in block g: its reply's cells xs, the bytes l that are laid, whether all that was laid may be. -/
def Wr (w : World) (g : Nat) (xs : List Value) (l : List UInt8) (ok : Bool) : Prop :=
  ∃ A n c, Blk w g 89 (xs ++ [Value.slice A n c, Value.bool ok]) ∧ OwB w (g + 1) A n c l ∧ xs.length = 18
section
variable {w w' : World} {g : Nat} {xs : List Value} {l : List UInt8} {ok : Bool}
theorem Wr.lt (h : Wr w g xs l ok) : g < w.heap.size := by obtain ⟨_, _, _, h, _⟩ := h; exact h.lt
theorem Wr.up (h : Wr w g xs l ok) (k : Below w.heap.size w w') : Wr w' g xs l ok := by
  obtain ⟨A, n, c, h1, h2, h3⟩ := h
  exact ⟨A, n, c, h1.up k, h2.up k, h3⟩
theorem Wr.alloc (h : Wr w g xs l ok) (o : Obj) : Wr (w.alloc o) g xs l ok := h.up ((Below.refl _ _).alloc (Nat.le_refl _) _)
theorem wr_at19 {A : Option Addr} {n c : Nat} (hx : xs.length = 18) : (xs ++ [Value.slice A n c, Value.bool ok])[19]? = some (.bool ok) := by
  rw [List.getElem?_append_right (by omega), hx]; rfl
theorem wr_at18 {A : Option Addr} {n c : Nat} (hx : xs.length = 18) : (xs ++ [Value.slice A n c, Value.bool ok])[18]? = some (.slice A n c) := by
  rw [List.getElem?_append_right (by omega), hx]; rfl
theorem wr_at {A : Option Addr} {n c i : Nat} {v : Value} (hx : xs.length = 18) (hv : xs[i]? = some v) : (xs ++ [Value.slice A n c, Value.bool ok])[i]? = some v := by
  have := (List.getElem?_eq_some_iff.1 hv).1
  rw [List.getElem?_append_left this, hv]
theorem wr_set19 {A : Option Addr} {n c : Nat} (hx : xs.length = 18) (b : Bool) : (xs ++ [Value.slice A n c, Value.bool ok]).set 19 (.bool b) = xs ++ [Value.slice A n c, Value.bool b] := by
  rw [List.set_append_right _ _ (by omega), hx]; rfl
theorem wr_set18 {A A' : Option Addr} {n c n' c' : Nat} (hx : xs.length = 18) : (xs ++ [Value.slice A n c, Value.bool ok]).set 18 (.slice A' n' c') = xs ++ [Value.slice A' n' c', .bool ok] := by
  rw [List.set_append_right _ _ (by omega), hx]; rfl
theorem wr_set {A : Option Addr} {n c i : Nat} (hi : i < 18) (hx : xs.length = 18) (v : Value) : (xs ++ [Value.slice A n c, Value.bool ok]).set i v = xs.set i v ++ [Value.slice A n c, Value.bool ok] := by
  rw [List.set_append_left _ _ (by omega)]
theorem not_is {g k : Nat} (h : g + 1 ≤ k) : ¬ Is g k := fun e => by
  have e' : k = g := e
  omega
/-- Whether all may be is noted. -/
theorem Wr.note {A : Option Addr} {n c : Nat} (h : Blk w g 89 (xs ++ [Value.slice A n c, Value.bool ok])) (ho : OwB w (g + 1) A n c l) (hx : xs.length = 18) (b : Bool) : Wr (w.setCell ⟨g, 19, none⟩ (.bool b)) g xs l b :=
  ⟨A, n, c, by rw [← wr_set19 hx b]; exact h.set 19 (.bool b), ho.keeps ((Keeps.refl (Is g) _).setCell (p := ⟨g, 19, none⟩) (.inl rfl) _) fun k hk => not_is hk, hx⟩
/-- New bytes are laid. -/
theorem Wr.laid {A A' : Option Addr} {n c n' c' : Nat} {l' : List UInt8} (h : Blk w g 89 (xs ++ [Value.slice A n c, Value.bool ok])) (ho : OwB w (g + 1) A' n' c' l') (hx : xs.length = 18) : Wr (w.setCell ⟨g, 18, none⟩ (.slice A' n' c')) g xs l' ok :=
  ⟨A', n', c', by rw [← wr_set18 hx]; exact h.set 18 (.slice A' n' c'), ho.keeps ((Keeps.refl (Is g) _).setCell (p := ⟨g, 18, none⟩) (.inl rfl) _) fun k hk => not_is hk, hx⟩
/-- A field is turned. -/
theorem Wr.field (h : Wr w g xs l ok) {i : Nat} (hi : i < 18) (v : Value) : Wr (w.setCell ⟨g, i, none⟩ v) g (xs.set i v) l ok := by
  obtain ⟨A, n, c, h, ho, hx⟩ := h
  exact ⟨A, n, c, by rw [← wr_set hi hx]; exact h.set i v, ho.keeps ((Keeps.refl (Is g) _).setCell (p := ⟨g, i, none⟩) (.inl rfl) _) fun k hk => not_is hk, by simp [hx]⟩
/-- Two blocks. -/
def Two18 (a b : Nat) : Nat → Prop := fun k => k = a ∨ k = b
theorem OwB.far {base n c q : Nat} {A : Option Addr} {t : TypeId} {cs : List Value} (h : OwB w base A n c l) (hq : Blk w q t cs) (ht : t ≠ 5) (k : Keeps (Is q) w w') : OwB w' base A n c l := by
  have hlt := Own.lt h
  refine ⟨h.1, ?_⟩
  rcases h.2 with h2 | ⟨b, cap, cur, fz, hv, hbb, hh, r⟩
  · exact .inl h2
  · refine .inr ⟨b, cap, cur, fz, hv, hbb, (k.block b (hlt b (by rw [hv]; rfl)).2 (fun e => ?_)).trans hh, r⟩
    have e' : b = q := e
    subst e'
    unfold Blk at hq
    rw [hq] at hh
    injection hh with h1
    injection h1 with _ h2
    exact ht h2
theorem Wr.far {q : Nat} {t : TypeId} {cs : List Value} (h : Wr w g xs l ok) (hq : Blk w q t cs) (ht : t ≠ 5) (hg : q ≠ g) (k : Keeps (Is q) w w') : Wr w' g xs l ok := by
  obtain ⟨A, n, c, h1, h2, h3⟩ := h
  exact ⟨A, n, c, h1.keeps k (fun e => hg (by have e' : g = q := e; exact e'.symm)), h2.far hq ht k, h3⟩
end
def UnitWr (g : Nat) (xs : List Value) (l : List UInt8) (ok : Bool) (w : World) (e : Ending) (w' : World) : Prop :=
  e = .returned (.tuple #[]) ∧ ∃ l' ok', Hid (l' = l) ∧ Hid (ok' = ok) ∧ Wr w' g xs l' ok' ∧ Keeps (Is g) w w'
/-- From 0 to most. -/
def inB (n most : Int) : Bool := decide (0 ≤ n) && decide (n ≤ most)
theorem wBound_any (g : Nat) (xs : List Value) (l : List UInt8) (ok : Bool) (n most : Int) (w : World) (h : Wr w g xs l ok) :
    Calls Try.prog 52 #[.pointer (some ⟨g, 0, none⟩), .int .i64 n, .int .i64 most] w (UnitWr g xs l (ok && inB n most) w) := by
  obtain ⟨A, m, c, hB, ho, hx⟩ := h
  have c19 := hB.cell 19 _ (wr_at19 hx)
  have f19 := hB.free 19
  have hS := fun b => Wr.note hB ho hx b
  have hk : ∀ b, Keeps (Is g) w (w.setCell ⟨g, 19, none⟩ (.bool b)) := fun b => (Keeps.refl (Is g) _).setCell (p := ⟨g, 19, none⟩) (.inl rfl) _
  have HS := Lib.hid hS
  have HK := Lib.hid hk
  clear hB ho hS hk
  rcases ok with _ | _
  · go_enter Try.func52, Try.ntmps52
    go_wp2
    go_end0
    exact ⟨rfl, l, false, rfl, Lib.hid (by simp), HS.out false, HK.out false⟩
  · by_cases h0 : 0 ≤ n
    · by_cases h1 : n ≤ most
      · go_enter Try.func52, Try.ntmps52
        go_wp2
        go_end0
        exact ⟨rfl, l, true, rfl, Lib.hid (by simp [inB, h0, h1]), HS.out true, HK.out true⟩
      · go_enter Try.func52, Try.ntmps52
        go_wp2
        go_end0
        exact ⟨rfl, l, false, rfl, Lib.hid (by simp [inB, show ¬ n ≤ most by omega]), HS.out false, HK.out false⟩
    · go_enter Try.func52, Try.ntmps52
      go_wp2
      go_end0
      exact ⟨rfl, l, false, rfl, Lib.hid (by simp [inB, show ¬ 0 ≤ n by omega]), HS.out false, HK.out false⟩

/-- A number's 32 bits, its 64 bits. -/
def n32 (n : Int) : Nat := (n % 4294967296).toNat
def n64 (n : Int) : Nat := (n % 18446744073709551616).toNat
def n16 (n : Int) : Nat := (n % 65536).toNat
def n8 (n : Int) : Nat := (n % 256).toNat
theorem wrap32 (n : Int) : IntKind.u32.wrap n = (n32 n : Int) := by
  simp only [n32, IntKind.wrap, IntKind.signed, IntKind.bits]
  simp [Int.toNat_of_nonneg (Int.emod_nonneg n (by decide : (4294967296 : Int) ≠ 0))]
theorem wrap64 (n : Int) : IntKind.u64.wrap n = (n64 n : Int) := by
  simp only [n64, IntKind.wrap, IntKind.signed, IntKind.bits]
  simp [Int.toNat_of_nonneg (Int.emod_nonneg n (by decide : (18446744073709551616 : Int) ≠ 0))]
theorem wrap16 (n : Int) : IntKind.u16.wrap n = (n16 n : Int) := by
  simp only [n16, IntKind.wrap, IntKind.signed, IntKind.bits]
  simp [Int.toNat_of_nonneg (Int.emod_nonneg n (by decide : (65536 : Int) ≠ 0))]
theorem wrap8 (n : Int) : IntKind.u8.wrap n = (n8 n : Int) := by
  simp only [n8, IntKind.wrap, IntKind.signed, IntKind.bits]
  simp [Int.toNat_of_nonneg (Int.emod_nonneg n (by decide : (256 : Int) ≠ 0))]
theorem n32_le (n : Int) : n32 n ≤ 4294967295 := by unfold n32; omega
theorem n64_le (n : Int) : n64 n ≤ 18446744073709551615 := by unfold n64; omega
theorem n16_le (n : Int) : n16 n ≤ 65535 := by unfold n16; omega
theorem n8_le (n : Int) : n8 n ≤ 255 := by unfold n8; omega
set_option maxHeartbeats 2000000 in
theorem wNumber_own (g : Nat) (xs : List Value) (l : List UInt8) (ok : Bool) (n : Int) (w : World) (h : Wr w g xs l ok) (i : Nat) (hi : i < 18) (hv : xs[i]? = some (.int .i64 n)) (hl : l.length ≤ 1000000) :
    Calls Try.prog 76 #[.pointer (some ⟨g, 0, none⟩), .pointer (some ⟨g, i, none⟩)] w (UnitWr g (xs.set i (.int .i64 0)) (l ++ le 4 (n32 n)) (ok && inB n 4294967295) w) := by
  have hW32 := wrap32 n
  have hm := n32_le n
  obtain ⟨m, hmm⟩ : ∃ m, m = n32 n := ⟨_, rfl⟩
  rw [← hmm] at hW32 hm ⊢
  have hp : w.cell? ⟨g, i, none⟩ = some (.int .i64 n) := by obtain ⟨A, c, d, hB, _, hx⟩ := h; exact hB.cell i _ (wr_at hx hv)
  have H := Lib.hid h
  have HM := Lib.hid hmm
  clear h hmm
  go_enter Try.func76, Try.ntmps76
  go_wp2_with fail
  refine (wBound_any g xs l ok n 4294967295 _ H.out).mono ?_
  rintro e w1 ⟨rfl, l1, ok1, hl1, hok1, hw1, hk1⟩
  obtain rfl := hl1.out.symm
  clear hl1 H hp
  obtain ⟨A, c, d, hB1, ho1, hx⟩ := hw1
  have hln := ho1.len
  have hcap := ho1.cap
  have HLN := Lib.hid hln
  have hp : w1.cell? ⟨g, i, none⟩ = some (.int .i64 n) := hB1.cell i _ (wr_at hx hv)
  have hb : w1.cell? ⟨g, 18, none⟩ = some (.slice A c d) := hB1.cell 18 _ (wr_at18 hx)
  have HB1 := Lib.hid hB1.drew
  have HO1 := Lib.hid ho1.drew
  have HK1 := Lib.hid hk1.drew
  clear hB1 ho1 hln hk1
  go_wp2
  refine wp_region_tr (Is g) (.t 0 (.t 1 (.t 2 (.t 3 (.t 5 (.t 6 (.b 4 (.s 7 (.t 8 (.s 9 (.t 10 (.t 11 (.s 12 .nil)))))) 7 (.t 8 (.s 4 (.s 9 (.t 10 (.t 11 (.s 12 .nil))))))))))))) (by kernel_rfl) (by kernel_rfl) ?_
  repeat (refine tr_take (by simp only [List.getElem?_toArray, List.getElem?_cons_succ, List.getElem?_cons_zero]; exact rfl) ?_; go_big_quiet_step (fail); refine wpQuiet_nil ?_)
  refine tr_both (by simp only [List.getElem?_toArray, List.getElem?_cons_succ, List.getElem?_cons_zero]; exact rfl) (by simp only [List.getElem?_toArray, List.getElem?_cons_succ, List.getElem?_cons_zero]; exact rfl) ?_ ?_
  · go_wp2
    refine Solo.mk (Keeps.refl _ _) ?_
    refine tr_solo (by simp only [List.getElem?_toArray, List.getElem?_cons_succ, List.getElem?_cons_zero]; exact rfl) ?_
    go_wp2
    refine Solo.mk (Keeps.refl _ _) ?_
    repeat (refine tr_take (by simp only [List.getElem?_toArray, List.getElem?_cons_succ, List.getElem?_cons_zero]; exact rfl) ?_; go_big_quiet_step (fail); refine wpQuiet_nil ?_)
    refine tr_solo (by simp only [List.getElem?_toArray, List.getElem?_cons_succ, List.getElem?_cons_zero]; exact rfl) ?_
    go_wp2_with fail
    refine (u32_any A c d l m _ HO1.out.rd hcap.1 (by rw [← HLN.out]; omega) hm).mono ?_
    rintro e w2 ⟨A2, n2, c2, l2, hl2, rfl, hown2, hb2⟩
    have hB2 := HB1.out.up hb2
    have f18 := hB2.free 18
    have p18 := hB2.cell 18 _ (wr_at18 hx)
    have HB2 := Lib.hid hB2
    have HO2 := Lib.hid hown2
    have HK2 := Lib.hid hb2
    have HL1 := Lib.hid HB1.out.lt
    clear hB2 hown2
    go_wp2
    refine Solo.up hb2 ?_
    clear hb2
    repeat (refine tr_take (by simp only [List.getElem?_toArray, List.getElem?_cons_succ, List.getElem?_cons_zero]; exact rfl) ?_; go_big_quiet_step (fail); refine wpQuiet_nil ?_)
    refine tr_solo (by simp only [List.getElem?_toArray, List.getElem?_cons_succ, List.getElem?_cons_zero]; exact rfl) ?_
    go_wp2
    refine Solo.mk ((Keeps.refl (Is g) _).setCell (p := ⟨g, 18, none⟩) (.inl rfl) _) ?_
    refine tr_end ?_
    have hw3 := Wr.laid HB2.out (HO2.out.lower (Nat.succ_le_of_lt HL1.out)) hx
    have hk3 : Keeps (Is g) w (w2.setCell ⟨g, 18, none⟩ (.slice A2 n2 c2)) := HK1.out.trans ((Keeps.of_below HK2.out).trans ((Keeps.refl (Is g) _).setCell (p := ⟨g, 18, none⟩) (.inl rfl) _))
    have f0 : (w2.setCell ⟨g, 18, none⟩ (.slice A2 n2 c2)).frozen? ⟨g, i, none⟩ = false := by obtain ⟨_, _, _, h3, _⟩ := hw3; exact h3.free i
    have p0 : (w2.setCell ⟨g, 18, none⟩ (.slice A2 n2 c2)).cell? ⟨g, i, none⟩ = some (.int .i64 n) := by obtain ⟨_, _, _, h3, _, hx3⟩ := hw3; exact h3.cell i _ (wr_at hx3 hv)
    have HW3 := Lib.hid hw3
    have HK3 := Lib.hid hk3
    clear hw3 hk3
    generalize w2.setCell ⟨g, 18, none⟩ (.slice A2 n2 c2) = w3 at HW3 HK3 f0 p0 ⊢
    clear f18 p18
    go_wp2
    go_end0
    exact ⟨rfl, l2, ok1, Lib.hid (by rw [hl2.out, HM.out]), hok1, HW3.out.field hi _, HK3.out.setCell (p := ⟨g, i, none⟩) (.inl rfl) _⟩
  · go_wp2
    refine Solo.mk (Keeps.refl _ _) ?_
    repeat (refine tr_take (by simp only [List.getElem?_toArray, List.getElem?_cons_succ, List.getElem?_cons_zero]; exact rfl) ?_; go_big_quiet_step (fail); refine wpQuiet_nil ?_)
    refine tr_solo (by simp only [List.getElem?_toArray, List.getElem?_cons_succ, List.getElem?_cons_zero]; exact rfl) ?_
    go_wp2
    refine Solo.mk (Keeps.refl _ _) ?_
    refine tr_solo (by simp only [List.getElem?_toArray, List.getElem?_cons_succ, List.getElem?_cons_zero]; exact rfl) ?_
    go_wp2_with fail
    refine (u32_any A c d l m _ HO1.out.rd hcap.1 (by rw [← HLN.out]; omega) hm).mono ?_
    rintro e w2 ⟨A2, n2, c2, l2, hl2, rfl, hown2, hb2⟩
    have hB2 := HB1.out.up hb2
    have f18 := hB2.free 18
    have p18 := hB2.cell 18 _ (wr_at18 hx)
    have HB2 := Lib.hid hB2
    have HO2 := Lib.hid hown2
    have HK2 := Lib.hid hb2
    have HL1 := Lib.hid HB1.out.lt
    clear hB2 hown2
    go_wp2
    refine Solo.up hb2 ?_
    clear hb2
    repeat (refine tr_take (by simp only [List.getElem?_toArray, List.getElem?_cons_succ, List.getElem?_cons_zero]; exact rfl) ?_; go_big_quiet_step (fail); refine wpQuiet_nil ?_)
    refine tr_solo (by simp only [List.getElem?_toArray, List.getElem?_cons_succ, List.getElem?_cons_zero]; exact rfl) ?_
    go_wp2
    refine Solo.mk ((Keeps.refl (Is g) _).setCell (p := ⟨g, 18, none⟩) (.inl rfl) _) ?_
    refine tr_end ?_
    have hw3 := Wr.laid HB2.out (HO2.out.lower (Nat.succ_le_of_lt HL1.out)) hx
    have hk3 : Keeps (Is g) w (w2.setCell ⟨g, 18, none⟩ (.slice A2 n2 c2)) := HK1.out.trans ((Keeps.of_below HK2.out).trans ((Keeps.refl (Is g) _).setCell (p := ⟨g, 18, none⟩) (.inl rfl) _))
    have f0 : (w2.setCell ⟨g, 18, none⟩ (.slice A2 n2 c2)).frozen? ⟨g, i, none⟩ = false := by obtain ⟨_, _, _, h3, _⟩ := hw3; exact h3.free i
    have p0 : (w2.setCell ⟨g, 18, none⟩ (.slice A2 n2 c2)).cell? ⟨g, i, none⟩ = some (.int .i64 n) := by obtain ⟨_, _, _, h3, _, hx3⟩ := hw3; exact h3.cell i _ (wr_at hx3 hv)
    have HW3 := Lib.hid hw3
    have HK3 := Lib.hid hk3
    clear hw3 hk3
    generalize w2.setCell ⟨g, 18, none⟩ (.slice A2 n2 c2) = w3 at HW3 HK3 f0 p0 ⊢
    clear f18 p18
    go_wp2
    go_end0
    exact ⟨rfl, l2, ok1, Lib.hid (by rw [hl2.out, HM.out]), hok1, HW3.out.field hi _, HK3.out.setCell (p := ⟨g, i, none⟩) (.inl rfl) _⟩
set_option maxHeartbeats 2000000 in
theorem wNumber_far (g : Nat) (xs : List Value) (l : List UInt8) (ok : Bool) (n : Int) (w : World) (h : Wr w g xs l ok) (q j : Nat) (t : TypeId) (cs : List Value) (hq : Blk w q t cs) (hv : cs[j]? = some (.int .i64 n)) (hqg : g < q) (ht : t ≠ 5) (hl : l.length ≤ 1000000) :
    Calls Try.prog 76 #[.pointer (some ⟨g, 0, none⟩), .pointer (some ⟨q, j, none⟩)] w (fun e w' => e = .returned (.tuple #[]) ∧ ∃ l' ok', Hid (l' = l ++ le 4 (n32 n)) ∧ Hid (ok' = (ok && inB n 4294967295)) ∧ Wr w' g xs l' ok' ∧ Blk w' q t (cs.set j (.int .i64 0)) ∧ Keeps (Two18 g q) w w') := by
  have hW32 := wrap32 n
  have hm := n32_le n
  obtain ⟨m, hmm⟩ : ∃ m, m = n32 n := ⟨_, rfl⟩
  rw [← hmm] at hW32 hm ⊢
  have hp : w.cell? ⟨q, j, none⟩ = some (.int .i64 n) := hq.cell j _ hv
  have HQ := Lib.hid hq
  clear hq
  have H := Lib.hid h
  have HM := Lib.hid hmm
  clear h hmm
  go_enter Try.func76, Try.ntmps76
  go_wp2_with fail
  refine (wBound_any g xs l ok n 4294967295 _ H.out).mono ?_
  rintro e w1 ⟨rfl, l1, ok1, hl1, hok1, hw1, hk1⟩
  obtain rfl := hl1.out.symm
  clear hl1 H hp
  obtain ⟨A, c, d, hB1, ho1, hx⟩ := hw1
  have hln := ho1.len
  have hcap := ho1.cap
  have HLN := Lib.hid hln
  have hq1 := HQ.out.keeps hk1 (fun e => by have e' : q = g := e; omega)
  have hp : w1.cell? ⟨q, j, none⟩ = some (.int .i64 n) := hq1.cell j _ hv
  have HQ1 := Lib.hid hq1.drew
  clear hq1
  have hb : w1.cell? ⟨g, 18, none⟩ = some (.slice A c d) := hB1.cell 18 _ (wr_at18 hx)
  have HB1 := Lib.hid hB1.drew
  have HO1 := Lib.hid ho1.drew
  have HK1 := Lib.hid hk1.drew
  clear hB1 ho1 hln hk1
  go_wp2
  refine wp_region_tr (Is g) (.t 0 (.t 1 (.t 2 (.t 3 (.t 5 (.t 6 (.t 7 (.t 8 (.s 4 (.s 9 (.t 10 (.t 11 (.s 12 .nil))))))))))))) (by kernel_rfl) (by kernel_rfl) ?_
  have hp' := cell_abv (G := Is g) (w := w1.drew) hp (fun e => by have e' : q = g := e; omega)
  repeat (refine tr_take (by simp only [List.getElem?_toArray, List.getElem?_cons_succ, List.getElem?_cons_zero]; exact rfl) ?_; go_big_quiet_step (fail); refine wpQuiet_nil ?_)
  refine tr_solo (by simp only [List.getElem?_toArray, List.getElem?_cons_succ, List.getElem?_cons_zero]; exact rfl) ?_
  go_wp2
  refine Solo.mk (Keeps.refl _ _) ?_
  refine tr_solo (by simp only [List.getElem?_toArray, List.getElem?_cons_succ, List.getElem?_cons_zero]; exact rfl) ?_
  go_wp2_with fail
  refine (u32_any A c d l m _ HO1.out.rd hcap.1 (by rw [← HLN.out]; omega) hm).mono ?_
  rintro e w2 ⟨A2, n2, c2, l2, hl2, rfl, hown2, hb2⟩
  have hB2 := HB1.out.up hb2
  have f18 := hB2.free 18
  have p18 := hB2.cell 18 _ (wr_at18 hx)
  have HB2 := Lib.hid hB2
  have HO2 := Lib.hid hown2
  have HK2 := Lib.hid hb2
  have HL1 := Lib.hid HB1.out.lt
  have hq2 := HQ1.out.up hb2
  have HQ2 := Lib.hid hq2
  clear hq2
  clear hB2 hown2
  go_wp2
  refine Solo.up hb2 ?_
  clear hb2
  repeat (refine tr_take (by simp only [List.getElem?_toArray, List.getElem?_cons_succ, List.getElem?_cons_zero]; exact rfl) ?_; go_big_quiet_step (fail); refine wpQuiet_nil ?_)
  refine tr_solo (by simp only [List.getElem?_toArray, List.getElem?_cons_succ, List.getElem?_cons_zero]; exact rfl) ?_
  go_wp2
  refine Solo.mk ((Keeps.refl (Is g) _).setCell (p := ⟨g, 18, none⟩) (.inl rfl) _) ?_
  refine tr_end ?_
  have hw3 := Wr.laid HB2.out (HO2.out.lower (Nat.succ_le_of_lt HL1.out)) hx
  have hk3 : Keeps (Is g) w (w2.setCell ⟨g, 18, none⟩ (.slice A2 n2 c2)) := HK1.out.trans ((Keeps.of_below HK2.out).trans ((Keeps.refl (Is g) _).setCell (p := ⟨g, 18, none⟩) (.inl rfl) _))
  have hq3 := HQ2.out.keeps ((Keeps.refl (Is g) _).setCell (p := ⟨g, 18, none⟩) (.inl rfl) (.slice A2 n2 c2)) (fun e => by have e' : q = g := e; omega)
  have f0 := hq3.free j
  have p0 := hq3.cell j _ hv
  have HW3 := Lib.hid hw3
  have HK3 := Lib.hid hk3
  have HQ3 := Lib.hid hq3
  clear hw3 hk3 hq3
  generalize w2.setCell ⟨g, 18, none⟩ (.slice A2 n2 c2) = w3 at HW3 HK3 HQ3 f0 p0 ⊢
  clear f18 p18
  go_wp2
  go_end0
  refine ⟨rfl, l2, ok1, Lib.hid (by rw [hl2.out, HM.out]), hok1, ?_, HQ3.out.set j _, (HK3.out.mono (fun k _ hk => .inl hk)).setCell (p := ⟨q, j, none⟩) (.inl (.inr rfl)) _⟩
  exact HW3.out.far HQ3.out ht (by omega) ((Keeps.refl (Is q) _).setCell (p := ⟨q, j, none⟩) (.inl rfl) _)
/-- A text's bytes; what is too long is not laid. -/
def txtB (s : List UInt8) : List UInt8 := if s.length ≤ 255 then le 2 s.length ++ s else []
set_option maxHeartbeats 2000000 in
theorem wText_own (g : Nat) (xs : List Value) (l : List UInt8) (ok : Bool) (s : List UInt8) (w : World) (h : Wr w g xs l ok) (i : Nat) (hi : i < 18) (hv : xs[i]? = some (.string (st s))) (hl : l.length ≤ 1000000) (hsl : s.length ≤ 1048576) :
    Calls Try.prog 77 #[.pointer (some ⟨g, 0, none⟩), .pointer (some ⟨g, i, none⟩)] w (UnitWr g (xs.set i (.string (st []))) (l ++ txtB s) (ok && decide (s.length ≤ 255)) w) := by
  have hz : st s = st s := rfl
  have hsz : (st s).size = s.length := st_size s
  have hp : w.cell? ⟨g, i, none⟩ = some (.string (st s)) := by obtain ⟨A, c, d, hB, _, hx⟩ := h; exact hB.cell i _ (wr_at hx hv)
  clear hz
  have H := Lib.hid h
  obtain ⟨A, c, d, hB1, ho1, hx⟩ := h
  have hln := ho1.len
  have hcap := ho1.cap
  have HLN := Lib.hid hln
  have hb : w.cell? ⟨g, 18, none⟩ = some (.slice A c d) := hB1.cell 18 _ (wr_at18 hx)
  have p19 := hB1.cell 19 _ (wr_at19 hx)
  have f19 := hB1.free 19
  have HB1 := Lib.hid hB1.drew
  have HO1 := Lib.hid ho1.drew
  by_cases hlong : 255 < s.length
  case pos =>
    have hw1 := Wr.note hB1 ho1 hx false
    have hk1 : Keeps (Is g) w (w.setCell ⟨g, 19, none⟩ (.bool false)) := (Keeps.refl (Is g) _).setCell (p := ⟨g, 19, none⟩) (.inl rfl) _
    have p0 : (w.setCell ⟨g, 19, none⟩ (.bool false)).cell? ⟨g, i, none⟩ = some (.string (st s)) := by obtain ⟨_, _, _, h3, _, hx3⟩ := hw1; exact h3.cell i _ (wr_at hx3 hv)
    have f0 : (w.setCell ⟨g, 19, none⟩ (.bool false)).frozen? ⟨g, i, none⟩ = false := by obtain ⟨_, _, _, h3, _⟩ := hw1; exact h3.free i
    have HW1 := Lib.hid hw1
    have HK1 := Lib.hid hk1
    have hli : (255 : Int) < s.length := by omega
    clear hw1 hk1 hB1 ho1 hb HB1 HO1 hln
    go_enter Try.func77, Try.ntmps77
    go_wp2
    go_end0
    have htx : txtB s = [] := by unfold txtB; rw [if_neg (by omega)]
    have hok : (ok && decide (s.length ≤ 255)) = false := by rw [decide_eq_false (by omega)]; simp
    exact ⟨rfl, l, false, Lib.hid (by rw [htx, List.append_nil]), Lib.hid hok.symm, HW1.out.field hi _, HK1.out.setCell (p := ⟨g, i, none⟩) (.inl rfl) _⟩
  have hli : ¬ (255 : Int) < s.length := by omega
  have htx : txtB s = le 2 s.length ++ s := by unfold txtB; rw [if_pos (by omega)]
  have hok : (ok && decide (s.length ≤ 255)) = ok := by rw [decide_eq_true (by omega)]; simp
  have HTX := Lib.hid htx
  have HOK := Lib.hid hok
  clear htx hok hB1 ho1 hln p19 f19 H
  go_enter Try.func77, Try.ntmps77
  go_wp2
  refine wp_region_tr (Is g) (.t 0 (.t 1 (.t 2 (.t 3 (.t 5 (.t 6 (.b 4 (.s 7 (.s 8 (.t 9 (.t 10 (.s 11 .nil))))) 7 (.s 4 (.s 8 (.t 9 (.t 10 (.s 11 .nil)))))))))))) (by kernel_rfl) (by kernel_rfl) ?_
  repeat (refine tr_take (by simp only [List.getElem?_toArray, List.getElem?_cons_succ, List.getElem?_cons_zero]; exact rfl) ?_; go_big_quiet_step (fail); refine wpQuiet_nil ?_)
  refine tr_both (by simp only [List.getElem?_toArray, List.getElem?_cons_succ, List.getElem?_cons_zero]; exact rfl) (by simp only [List.getElem?_toArray, List.getElem?_cons_succ, List.getElem?_cons_zero]; exact rfl) ?_ ?_
  · go_wp2
    refine Solo.mk (Keeps.refl _ _) ?_
    refine tr_solo (by simp only [List.getElem?_toArray, List.getElem?_cons_succ, List.getElem?_cons_zero]; exact rfl) ?_
    go_wp2
    refine Solo.mk (Keeps.refl _ _) ?_
    refine tr_solo (by simp only [List.getElem?_toArray, List.getElem?_cons_succ, List.getElem?_cons_zero]; exact rfl) ?_
    go_wp2_with fail
    refine (text_any A c d l s _ HO1.out.rd hcap.1 (by rw [← HLN.out]; omega) (by omega)).mono ?_
    rintro e w2 ⟨A2, n2, c2, l2, hl2, rfl, hown2, hb2⟩
    have hB2 := HB1.out.up hb2
    have f18 := hB2.free 18
    have p18 := hB2.cell 18 _ (wr_at18 hx)
    have HB2 := Lib.hid hB2
    have HO2 := Lib.hid hown2
    have HK2 := Lib.hid hb2
    have HL1 := Lib.hid HB1.out.lt
    clear hB2 hown2
    go_wp2
    refine Solo.up hb2 ?_
    clear hb2
    repeat (refine tr_take (by simp only [List.getElem?_toArray, List.getElem?_cons_succ, List.getElem?_cons_zero]; exact rfl) ?_; go_big_quiet_step (fail); refine wpQuiet_nil ?_)
    refine tr_solo (by simp only [List.getElem?_toArray, List.getElem?_cons_succ, List.getElem?_cons_zero]; exact rfl) ?_
    go_wp2
    refine Solo.mk ((Keeps.refl (Is g) _).setCell (p := ⟨g, 18, none⟩) (.inl rfl) _) ?_
    refine tr_end ?_
    have hw3 := Wr.laid HB2.out (HO2.out.lower (Nat.succ_le_of_lt HL1.out)) hx
    have hk3 : Keeps (Is g) w (w2.setCell ⟨g, 18, none⟩ (.slice A2 n2 c2)) := (Keeps.refl (Is g) w).drew.trans ((Keeps.of_below HK2.out).trans ((Keeps.refl (Is g) _).setCell (p := ⟨g, 18, none⟩) (.inl rfl) _))
    have f0 : (w2.setCell ⟨g, 18, none⟩ (.slice A2 n2 c2)).frozen? ⟨g, i, none⟩ = false := by obtain ⟨_, _, _, h3, _⟩ := hw3; exact h3.free i
    have p0 : (w2.setCell ⟨g, 18, none⟩ (.slice A2 n2 c2)).cell? ⟨g, i, none⟩ = some (.string (st s)) := by obtain ⟨_, _, _, h3, _, hx3⟩ := hw3; exact h3.cell i _ (wr_at hx3 hv)
    have HW3 := Lib.hid hw3
    have HK3 := Lib.hid hk3
    clear hw3 hk3
    generalize w2.setCell ⟨g, 18, none⟩ (.slice A2 n2 c2) = w3 at HW3 HK3 f0 p0 ⊢
    clear f18 p18 hb hp
    go_wp2
    go_end0
    exact ⟨rfl, l2, ok, Lib.hid (by rw [hl2.out, HTX.out, List.append_assoc]), Lib.hid HOK.out.symm, HW3.out.field hi _, HK3.out.setCell (p := ⟨g, i, none⟩) (.inl rfl) _⟩
  · go_wp2
    refine Solo.mk (Keeps.refl _ _) ?_
    refine tr_solo (by simp only [List.getElem?_toArray, List.getElem?_cons_succ, List.getElem?_cons_zero]; exact rfl) ?_
    go_wp2
    refine Solo.mk (Keeps.refl _ _) ?_
    refine tr_solo (by simp only [List.getElem?_toArray, List.getElem?_cons_succ, List.getElem?_cons_zero]; exact rfl) ?_
    go_wp2_with fail
    refine (text_any A c d l s _ HO1.out.rd hcap.1 (by rw [← HLN.out]; omega) (by omega)).mono ?_
    rintro e w2 ⟨A2, n2, c2, l2, hl2, rfl, hown2, hb2⟩
    have hB2 := HB1.out.up hb2
    have f18 := hB2.free 18
    have p18 := hB2.cell 18 _ (wr_at18 hx)
    have HB2 := Lib.hid hB2
    have HO2 := Lib.hid hown2
    have HK2 := Lib.hid hb2
    have HL1 := Lib.hid HB1.out.lt
    clear hB2 hown2
    go_wp2
    refine Solo.up hb2 ?_
    clear hb2
    repeat (refine tr_take (by simp only [List.getElem?_toArray, List.getElem?_cons_succ, List.getElem?_cons_zero]; exact rfl) ?_; go_big_quiet_step (fail); refine wpQuiet_nil ?_)
    refine tr_solo (by simp only [List.getElem?_toArray, List.getElem?_cons_succ, List.getElem?_cons_zero]; exact rfl) ?_
    go_wp2
    refine Solo.mk ((Keeps.refl (Is g) _).setCell (p := ⟨g, 18, none⟩) (.inl rfl) _) ?_
    refine tr_end ?_
    have hw3 := Wr.laid HB2.out (HO2.out.lower (Nat.succ_le_of_lt HL1.out)) hx
    have hk3 : Keeps (Is g) w (w2.setCell ⟨g, 18, none⟩ (.slice A2 n2 c2)) := (Keeps.refl (Is g) w).drew.trans ((Keeps.of_below HK2.out).trans ((Keeps.refl (Is g) _).setCell (p := ⟨g, 18, none⟩) (.inl rfl) _))
    have f0 : (w2.setCell ⟨g, 18, none⟩ (.slice A2 n2 c2)).frozen? ⟨g, i, none⟩ = false := by obtain ⟨_, _, _, h3, _⟩ := hw3; exact h3.free i
    have p0 : (w2.setCell ⟨g, 18, none⟩ (.slice A2 n2 c2)).cell? ⟨g, i, none⟩ = some (.string (st s)) := by obtain ⟨_, _, _, h3, _, hx3⟩ := hw3; exact h3.cell i _ (wr_at hx3 hv)
    have HW3 := Lib.hid hw3
    have HK3 := Lib.hid hk3
    clear hw3 hk3
    generalize w2.setCell ⟨g, 18, none⟩ (.slice A2 n2 c2) = w3 at HW3 HK3 f0 p0 ⊢
    clear f18 p18 hb hp
    go_wp2
    go_end0
    exact ⟨rfl, l2, ok, Lib.hid (by rw [hl2.out, HTX.out, List.append_assoc]), Lib.hid HOK.out.symm, HW3.out.field hi _, HK3.out.setCell (p := ⟨g, i, none⟩) (.inl rfl) _⟩
set_option maxHeartbeats 2000000 in
theorem wText_far (g : Nat) (xs : List Value) (l : List UInt8) (ok : Bool) (s : List UInt8) (w : World) (h : Wr w g xs l ok) (q j : Nat) (t : TypeId) (cs : List Value) (hq : Blk w q t cs) (hv : cs[j]? = some (.string (st s))) (hqg : g < q) (ht : t ≠ 5) (hl : l.length ≤ 1000000) (hsl : s.length ≤ 1048576) :
    Calls Try.prog 77 #[.pointer (some ⟨g, 0, none⟩), .pointer (some ⟨q, j, none⟩)] w (fun e w' => e = .returned (.tuple #[]) ∧ ∃ l' ok', Hid (l' = l ++ txtB s) ∧ Hid (ok' = (ok && decide (s.length ≤ 255))) ∧ Wr w' g xs l' ok' ∧ Blk w' q t (cs.set j (.string (st []))) ∧ Keeps (Two18 g q) w w') := by
  have hz : st s = st s := rfl
  have hsz : (st s).size = s.length := st_size s
  have hp : w.cell? ⟨q, j, none⟩ = some (.string (st s)) := hq.cell j _ hv
  clear hz
  have HQ := Lib.hid hq
  clear hq
  have H := Lib.hid h
  obtain ⟨A, c, d, hB1, ho1, hx⟩ := h
  have hln := ho1.len
  have hcap := ho1.cap
  have HLN := Lib.hid hln
  have hb : w.cell? ⟨g, 18, none⟩ = some (.slice A c d) := hB1.cell 18 _ (wr_at18 hx)
  have p19 := hB1.cell 19 _ (wr_at19 hx)
  have f19 := hB1.free 19
  have HB1 := Lib.hid hB1.drew
  have HO1 := Lib.hid ho1.drew
  by_cases hlong : 255 < s.length
  case pos =>
    have hw1 := Wr.note hB1 ho1 hx false
    have hk1 : Keeps (Is g) w (w.setCell ⟨g, 19, none⟩ (.bool false)) := (Keeps.refl (Is g) _).setCell (p := ⟨g, 19, none⟩) (.inl rfl) _
    have hq1 := HQ.out.keeps hk1 (fun e => by have e' : q = g := e; omega)
    have p0 := hq1.cell j _ hv
    have f0 := hq1.free j
    have HQ1 := Lib.hid hq1
    clear hq1
    have HW1 := Lib.hid hw1
    have HK1 := Lib.hid hk1
    have hli : (255 : Int) < s.length := by omega
    clear hw1 hk1 hB1 ho1 hb HB1 HO1 hln
    go_enter Try.func77, Try.ntmps77
    go_wp2
    go_end0
    have htx : txtB s = [] := by unfold txtB; rw [if_neg (by omega)]
    have hok : (ok && decide (s.length ≤ 255)) = false := by rw [decide_eq_false (by omega)]; simp
    exact ⟨rfl, l, false, Lib.hid (by rw [htx, List.append_nil]), Lib.hid hok.symm, HW1.out.far HQ1.out ht (by omega) ((Keeps.refl (Is q) _).setCell (p := ⟨q, j, none⟩) (.inl rfl) _), HQ1.out.set j _, (HK1.out.mono (fun k _ hk => .inl hk)).setCell (p := ⟨q, j, none⟩) (.inl (.inr rfl)) _⟩
  have hli : ¬ (255 : Int) < s.length := by omega
  have htx : txtB s = le 2 s.length ++ s := by unfold txtB; rw [if_pos (by omega)]
  have hok : (ok && decide (s.length ≤ 255)) = ok := by rw [decide_eq_true (by omega)]; simp
  have HTX := Lib.hid htx
  have HOK := Lib.hid hok
  clear htx hok hB1 ho1 hln p19 f19 H
  have HQ1 := Lib.hid HQ.out.drew
  go_enter Try.func77, Try.ntmps77
  go_wp2
  refine wp_region_tr (Is g) (.t 0 (.t 1 (.t 2 (.t 3 (.t 5 (.t 6 (.t 7 (.s 4 (.s 8 (.t 9 (.t 10 (.s 11 .nil)))))))))))) (by kernel_rfl) (by kernel_rfl) ?_
  have hp' := cell_abv (G := Is g) (w := w.drew) hp (fun e => by have e' : q = g := e; omega)
  repeat (refine tr_take (by simp only [List.getElem?_toArray, List.getElem?_cons_succ, List.getElem?_cons_zero]; exact rfl) ?_; go_big_quiet_step (fail); refine wpQuiet_nil ?_)
  refine tr_solo (by simp only [List.getElem?_toArray, List.getElem?_cons_succ, List.getElem?_cons_zero]; exact rfl) ?_
  go_wp2
  refine Solo.mk (Keeps.refl _ _) ?_
  refine tr_solo (by simp only [List.getElem?_toArray, List.getElem?_cons_succ, List.getElem?_cons_zero]; exact rfl) ?_
  go_wp2_with fail
  refine (text_any A c d l s _ HO1.out.rd hcap.1 (by rw [← HLN.out]; omega) (by omega)).mono ?_
  rintro e w2 ⟨A2, n2, c2, l2, hl2, rfl, hown2, hb2⟩
  have hB2 := HB1.out.up hb2
  have f18 := hB2.free 18
  have p18 := hB2.cell 18 _ (wr_at18 hx)
  have HB2 := Lib.hid hB2
  have HO2 := Lib.hid hown2
  have HK2 := Lib.hid hb2
  have HL1 := Lib.hid HB1.out.lt
  have hq2 := HQ1.out.up hb2
  have HQ2 := Lib.hid hq2
  clear hq2
  clear hB2 hown2
  go_wp2
  refine Solo.up hb2 ?_
  clear hb2
  repeat (refine tr_take (by simp only [List.getElem?_toArray, List.getElem?_cons_succ, List.getElem?_cons_zero]; exact rfl) ?_; go_big_quiet_step (fail); refine wpQuiet_nil ?_)
  refine tr_solo (by simp only [List.getElem?_toArray, List.getElem?_cons_succ, List.getElem?_cons_zero]; exact rfl) ?_
  go_wp2
  refine Solo.mk ((Keeps.refl (Is g) _).setCell (p := ⟨g, 18, none⟩) (.inl rfl) _) ?_
  refine tr_end ?_
  have hw3 := Wr.laid HB2.out (HO2.out.lower (Nat.succ_le_of_lt HL1.out)) hx
  have hk3 : Keeps (Is g) w (w2.setCell ⟨g, 18, none⟩ (.slice A2 n2 c2)) := (Keeps.refl (Is g) w).drew.trans ((Keeps.of_below HK2.out).trans ((Keeps.refl (Is g) _).setCell (p := ⟨g, 18, none⟩) (.inl rfl) _))
  have hq3 := HQ2.out.keeps ((Keeps.refl (Is g) _).setCell (p := ⟨g, 18, none⟩) (.inl rfl) (.slice A2 n2 c2)) (fun e => by have e' : q = g := e; omega)
  have f0 := hq3.free j
  have p0 := hq3.cell j _ hv
  have HW3 := Lib.hid hw3
  have HK3 := Lib.hid hk3
  have HQ3 := Lib.hid hq3
  clear hw3 hk3 hq3
  generalize w2.setCell ⟨g, 18, none⟩ (.slice A2 n2 c2) = w3 at HW3 HK3 HQ3 f0 p0 ⊢
  clear f18 p18 hb hp hp'
  go_wp2
  go_end0
  refine ⟨rfl, l2, ok, Lib.hid (by rw [hl2.out, HTX.out, List.append_assoc]), Lib.hid HOK.out.symm, ?_, HQ3.out.set j _, (HK3.out.mono (fun k _ hk => .inl hk)).setCell (p := ⟨q, j, none⟩) (.inl (.inr rfl)) _⟩
  exact HW3.out.far HQ3.out ht (by omega) ((Keeps.refl (Is q) _).setCell (p := ⟨q, j, none⟩) (.inl rfl) _)

def bitQ (d : Bool) : Nat := if d then 128 else 0
theorem bitQ_le (d : Bool) : bitQ d ≤ 255 := by cases d <;> decide
/-- A qid's bytes. -/
def qidB (q : QidV) : List UInt8 := le 1 (bitQ q.dir) ++ le 4 (n32 q.ver) ++ le 8 (n64 q.path)
def qidOk (q : QidV) : Bool := inB q.ver 4294967295 && inB q.path 4611686018427387904
theorem qidB_len (q : QidV) : (qidB q).length = 13 := by simp [qidB, le_length]
set_option maxRecDepth 20000 in
set_option maxHeartbeats 4000000 in
theorem wQid_any (g : Nat) (xs : List Value) (l : List UInt8) (ok : Bool) (q : QidV) (w : World) (h : Wr w g xs l ok) (hl : l.length ≤ 900000) :
    Calls Try.prog 78 #[.pointer (some ⟨g, 0, none⟩), .agg #[.bool q.dir, .int .i64 q.ver, .int .i64 q.path]] w (UnitWr g xs (l ++ qidB q) (ok && qidOk q) w) := by
  obtain ⟨dir, ver, path⟩ := q
  have hQ0 := Blk.new w 23 [.bool dir, .int .i64 ver, .int .i64 path]
  have hW0 := h.alloc (.cells #[.bool dir, .int .i64 ver, .int .i64 path] 23)
  have hk0 : Keeps (Is g) w (w.alloc (.cells #[.bool dir, .int .i64 ver, .int .i64 path] 23)) := (Keeps.refl _ _).alloc _
  have hg := h.lt
  obtain ⟨Q, hQ⟩ : ∃ Q, Q = w.heap.size := ⟨_, rfl⟩
  obtain ⟨W, hW⟩ : ∃ W, W = w.alloc (.cells #[.bool dir, .int .i64 ver, .int .i64 path] 23) := ⟨_, rfl⟩
  have hW' : W = w.alloc (.cells [.bool dir, .int .i64 ver, .int .i64 path].toArray 23) := hW
  rw [← hQ, ← hW'] at hQ0
  rw [← hW] at hW0 hk0
  have hgQ : g < Q := by omega
  have hQn : ¬ Is g Q := fun e => by have e' : Q = g := e; omega
  have hWq := wrap64 path
  have hm := n64_le path
  obtain ⟨m, hmm⟩ : ∃ m, m = n64 path := ⟨_, rfl⟩
  rw [← hmm] at hWq hm
  have HM := Lib.hid hmm
  have hkb := bitQ_le dir
  obtain ⟨A, c, d, hB0, ho0, hx⟩ := hW0
  have hln0 := ho0.len
  have hcap0 := ho0.cap
  have hb0 := hB0.cell 18 _ (wr_at18 hx)
  have q0 := hQ0.cell 0 _ rfl
  have HLN0 := Lib.hid hln0
  have HB0 := Lib.hid hB0
  have HO0 := Lib.hid ho0
  have HQ0 := Lib.hid hQ0
  have HK0 := Lib.hid hk0
  have HQW := Lib.hid hQ
  clear hB0 ho0 hQ0 hk0 hmm hln0 h hg hW'
  go_enter Try.func78, Try.ntmps78
  go_upto_region 1 with fail
  rw [← hW, ← hQ]
  clear hW hQ
  have hmain : ∃ kb : Nat, kb = bitQ dir := ⟨_, rfl⟩
  rcases dir with _ | _
  all_goals
    go_wp2_with fail
    first
    | refine (u8_any A c d l 0 _ HO0.out.rd hcap0.1 (by rw [← HLN0.out]; omega) (by omega)).mono ?_
    | refine (u8_any A c d l 128 _ HO0.out.rd hcap0.1 (by rw [← HLN0.out]; omega) (by omega)).mono ?_
    rintro e w2 ⟨A2, n2, c2, l2, hl2, rfl, hown2, hb2⟩
    have hB2 := HB0.out.up hb2
    have hq2 := HQ0.out.up hb2
    have f18 := hB2.free 18
    have p18 := hB2.cell 18 _ (wr_at18 hx)
    have hg0 := HB0.out.lt
    have hw3 := Wr.laid hB2 (hown2.lower (Nat.succ_le_of_lt hg0)) hx
    have hk3 : Keeps (Is g) w (w2.setCell ⟨g, 18, none⟩ (.slice A2 n2 c2)) := (HK0.out.trans (Keeps.of_below hb2)).trans ((Keeps.refl (Is g) _).setCell (p := ⟨g, 18, none⟩) (.inl rfl) _)
    have hq3 := hq2.keeps ((Keeps.refl (Is g) _).setCell (p := ⟨g, 18, none⟩) (.inl rfl) (.slice A2 n2 c2)) hQn
    have hlen2 : l2.length ≤ 900001 := by rw [hl2.out, List.length_append, le_length]; omega
    have HW3 := Lib.hid hw3
    have HK3 := Lib.hid hk3
    have HQ3 := Lib.hid hq3
    have HN2 := Lib.hid hlen2
    clear hB2 hq2 hw3 hk3 hq3 hown2 hb2 hb0 q0 hlen2 hg0
    go_upto_region 5 with fail
    generalize w2.setCell ⟨g, 18, none⟩ (.slice A2 n2 c2) = w3 at HW3 HK3 HQ3 ⊢
    clear f18 p18
    go_wp2_with fail
    refine (wNumber_far g xs l2 ok ver w3 HW3.out Q 1 23 _ HQ3.out rfl hgQ (by decide) (by have := HN2.out; omega)).mono ?_
    rintro e w4 ⟨rfl, l4, ok4, hl4, hok4, hw4, hq4, hk4⟩
    have p2 := hq4.cell 2 (.int .i64 path) rfl
    have HQ4 := Lib.hid hq4
    have HW4 := Lib.hid hw4
    have HK4 := Lib.hid ((HK3.out.mono (G' := Two18 g Q) (fun k _ hk => .inl hk)).trans hk4)
    clear hq4 hw4 hk4
    go_wp2_with fail
    refine (wBound_any g xs l4 ok4 path 4611686018427387904 w4 HW4.out).mono ?_
    rintro e w5 ⟨rfl, l5, ok5, hl5, hok5, hw5, hk5⟩
    obtain rfl := hl5.out.symm
    have hq5 := HQ4.out.keeps hk5 hQn
    have hp := hq5.cell 2 (.int .i64 path) rfl
    have hlen4 : l4.length ≤ 900005 := by rw [hl4.out, List.length_append, le_length]; have := HN2.out; omega
    obtain ⟨A5, c5, d5, hB5, ho5, _⟩ := hw5
    have hb := hB5.cell 18 _ (wr_at18 hx)
    have hcap5 := ho5.cap
    have HLN5 := Lib.hid ho5.len
    have HL4 := Lib.hid hlen4
    have HQ5 := Lib.hid hq5.drew
    have HB5 := Lib.hid hB5.drew
    have HO5 := Lib.hid ho5.drew
    have HK5 := Lib.hid (HK4.out.trans (hk5.mono (G' := Two18 g Q) (fun k _ hk => .inl hk))).drew
    clear hq5 hB5 ho5 hk5 p2 hl5 hlen4
    go_wp2
    refine wp_region_tr (Is g) (.t 0 (.t 1 (.t 2 (.t 3 (.t 5 (.t 6 (.t 7 (.s 4 (.s 8 (.t 9 (.t 10 (.s 11 .nil)))))))))))) (by kernel_rfl) (by kernel_rfl) ?_
    have hp' := cell_abv (G := Is g) (w := w5.drew) hp hQn
    repeat (refine tr_take (by simp only [List.getElem?_toArray, List.getElem?_cons_succ, List.getElem?_cons_zero]; exact rfl) ?_; go_big_quiet_step (fail); refine wpQuiet_nil ?_)
    refine tr_solo (by simp only [List.getElem?_toArray, List.getElem?_cons_succ, List.getElem?_cons_zero]; exact rfl) ?_
    go_wp2
    refine Solo.mk (Keeps.refl _ _) ?_
    refine tr_solo (by simp only [List.getElem?_toArray, List.getElem?_cons_succ, List.getElem?_cons_zero]; exact rfl) ?_
    go_wp2_with fail
    refine (u64_any A5 c5 d5 l4 m _ HO5.out.rd hcap5.1 (by rw [← HLN5.out]; have := HL4.out; omega) hm).mono ?_
    rintro e w6 ⟨A6, n6, c6, l6, hl6, rfl, hown6, hb6⟩
    have hB6 := HB5.out.up hb6
    have f18 := hB6.free 18
    have p18 := hB6.cell 18 _ (wr_at18 hx)
    have HB6 := Lib.hid hB6
    have HO6 := Lib.hid hown6
    have HK6 := Lib.hid hb6
    clear hB6 hown6
    go_wp2
    refine Solo.up hb6 ?_
    clear hb6
    repeat (refine tr_take (by simp only [List.getElem?_toArray, List.getElem?_cons_succ, List.getElem?_cons_zero]; exact rfl) ?_; go_big_quiet_step (fail); refine wpQuiet_nil ?_)
    refine tr_solo (by simp only [List.getElem?_toArray, List.getElem?_cons_succ, List.getElem?_cons_zero]; exact rfl) ?_
    go_wp2
    refine Solo.mk ((Keeps.refl (Is g) _).setCell (p := ⟨g, 18, none⟩) (.inl rfl) _) ?_
    refine tr_end ?_
    have hw7 := Wr.laid HB6.out (HO6.out.lower (Nat.succ_le_of_lt HB5.out.lt)) hx
    have hk7 : Keeps (Two18 g Q) w (w6.setCell ⟨g, 18, none⟩ (.slice A6 n6 c6)) := HK5.out.trans ((Keeps.of_below HK6.out).trans ((Keeps.refl (Two18 g Q) _).setCell (p := ⟨g, 18, none⟩) (.inl (.inl rfl)) _))
    have HW7 := Lib.hid hw7
    have HK7 := Lib.hid hk7
    clear hw7 hk7
    generalize w6.setCell ⟨g, 18, none⟩ (.slice A6 n6 c6) = w7 at HW7 HK7 ⊢
    clear f18 p18 hp hp' hb
    go_wp2
    go_end0
    refine ⟨rfl, l6, ok5, Lib.hid ?_, Lib.hid ?_, HW7.out, HK7.out.mono fun k hk hk2 => ?_⟩
    · rw [hl6.out, hl4.out, hl2.out, HM.out]; simp [qidB, bitQ, List.append_assoc]
    · rw [hok5.out, hok4.out]; simp [qidOk, Bool.and_assoc]
    · rcases hk2 with e | e
      · exact e
      · have := HQW.out; omega

/-- A scope in which the run jumps back to one label: the pass once, for the first way too. -/
theorem wp_scope_jumps2 {P : Program} {a : Act} {w : World} {Q : Exit → Act → World → Prop} {c rest : Code} (l : Nat) (J : Act → World → Prop) (μ : Act → World → Nat) (hf : findLabel c l = some (.seq .skip rest))
    (pass : ∀ a w, J a w → rest.wp P (Exit.jump l (fun a' w' => J a' w' ∧ μ a' w' < μ a w) Q) a w)
    (first : (∀ a w, J a w → rest.wp P (Exit.jump l J Q) a w) → c.wp P (Exit.jump l J Q) a w) : (Code.scope c).wp P Q a w :=
  wp_scope_jumps l J μ hf (first fun a w h => Code.wp_mono (fun e a' w' h' => by
    cases e <;> first | exact h' | exact ⟨h'.1, h'.2.1⟩) (pass a w h)) fun a w h => wp_seq (wp_skip (pass a w h))
/-- Qids' bytes; if there are too many, nothing is laid. -/
def qidsB (qs : List QidV) : List UInt8 := if qs.length ≤ 8 then le 2 qs.length ++ qs.flatMap qidB else []
def qidsOk (qs : List QidV) : Bool := decide (qs.length ≤ 8) && qs.all qidOk
def QsJ (g : Nat) (xs : List Value) (l : List UInt8) (ok : Bool) (A1 : Option Addr) (n1 c1 : Nat) (qs : List QidV) (w : World) (a' : Act) (w' : World) : Prop :=
  ∃ (j : Nat) (l' : List UInt8) (ok' : Bool), j ≤ n1 ∧ Hid (l' = l ++ le 2 n1 ++ (qs.take j).flatMap qidB) ∧ Hid (ok' = (ok && (qs.take j).all qidOk)) ∧ Wr w' g xs l' ok' ∧ Keeps (Is g) w w' ∧
    ∃ (u2 u3 u5 u6 u7 u8 u9 u10 u11 u12 u13 u14 u15 u16 u17 u18 u19 u20 u21 u22 u23 u24 u25 u26 u27 u28 u29 u30 u31 u32 u33 : Value), a' = { tmps := #[.pointer (some ⟨g, 0, none⟩), .slice A1 n1 c1, u2, u3, .int .i64 j, u5, u6, u7, u8, u9, u10, u11, u12, u13, u14, u15, u16, u17, u18, u19, u20, u21, u22, u23, u24, u25, u26, u27, u28, u29, u30, u31, u32, u33], defers := [] }
theorem flat_len18 : ∀ qs : List QidV, (qs.flatMap qidB).length = 13 * qs.length
  | [] => rfl
  | q :: qs => by rw [List.flatMap_cons, List.length_append, qidB_len, flat_len18 qs, List.length_cons]; omega
def ivOf : Value → Int | .int _ q => q | _ => 0
set_option maxRecDepth 20000 in
set_option maxHeartbeats 4000000 in
theorem wQids_any (g : Nat) (xs : List Value) (l : List UInt8) (ok : Bool) (A1 : Option Addr) (n1 c1 : Nat) (qs : List QidV) (w : World) (h : Wr w g xs l ok) (hr : RdR w g 3 A1 n1 (qs.map qidC)) (hl : l.length ≤ 800000) :
    Calls Try.prog 79 #[.pointer (some ⟨g, 0, none⟩), .slice A1 n1 c1] w (UnitWr g xs (l ++ qidsB qs) (ok && qidsOk qs) w) := by
  have hlq : qs.length = n1 := by have := hr.len; simpa using this
  have HLQ := Lib.hid hlq
  have HR := Lib.hid hr
  have H := Lib.hid h
  have hgl := h.lt
  obtain ⟨A, c, d, hB0, ho0, hx⟩ := h
  by_cases hlong : 8 < n1
  · have p19 := hB0.cell 19 _ (wr_at19 hx)
    have f19 := hB0.free 19
    have hw1 := Wr.note hB0 ho0 hx false
    have hk1 : Keeps (Is g) w (w.setCell ⟨g, 19, none⟩ (.bool false)) := (Keeps.refl (Is g) _).setCell (p := ⟨g, 19, none⟩) (.inl rfl) _
    have HW1 := Lib.hid hw1
    have HK1 := Lib.hid hk1
    have hli : (8 : Int) < n1 := by omega
    clear hw1 hk1 hB0 ho0 hlq hr
    go_enter Try.func79, Try.ntmps79
    go_wp2
    go_step3
    go_wp2
    rw [Exit.noGoto_ret]
    go_end0
    exact ⟨rfl, l, false, Lib.hid (by unfold qidsB; rw [if_neg (by rw [HLQ.out]; omega), List.append_nil]), Lib.hid (by unfold qidsOk; rw [decide_eq_false (by rw [HLQ.out]; omega)]; simp), HW1.out, HK1.out⟩
  · have hln0 := ho0.len
    have hcap0 := ho0.cap
    have hb0 := hB0.cell 18 _ (wr_at18 hx)
    have HLN0 := Lib.hid hln0
    have HB0 := Lib.hid hB0
    have HO0 := Lib.hid ho0
    have hli : ¬ (8 : Int) < n1 := by omega
    have hw16 : IntKind.u16.wrap (n1 : Int) = (n1 : Int) := by rw [wrap16]; unfold n16; omega
    clear hB0 ho0 hln0 hlq hr
    go_enter Try.func79, Try.ntmps79
    go_wp2
    refine wp_scope_jumps2 0 (fun a' w' => QsJ g xs l ok A1 n1 c1 qs w a' w') (fun a' _ => n1 - (ivOf (a'.tmps.getD 4 undef)).toNat) rfl ?_ ?_
    · rintro a' w' ⟨j, l', ok', hj, hl', hok', hw', hk', u2, u3, u5, u6, u7, u8, u9, u10, u11, u12, u13, u14, u15, u16, u17, u18, u19, u20, u21, u22, u23, u24, u25, u26, u27, u28, u29, u30, u31, u32, u33, rfl⟩
      by_cases hlt : j < n1
      · have j0 : (0 : Int) ≤ j := by omega
        have j1 : (j : Int) < n1 := by omega
        obtain ⟨b1, o1, r1, hA1, hb1, hr1, _, hc1⟩ := (HR.out.below (hk'.is (Nat.le_refl g) (Nat.le_of_lt hgl))).at_ hlt
        have hj1 : j < qs.length := by rw [HLQ.out]; exact hlt
        obtain ⟨x, hx1⟩ : ∃ x, qs[j]? = some x := ⟨_, List.getElem?_eq_getElem hj1⟩
        rw [List.getElem?_map, hx1] at hr1
        obtain rfl : r1 = qidC x := (Option.some.inj hr1).symm
        have htk : qs.take (j + 1) = qs.take j ++ [x] := by rw [List.take_add_one, hx1]; rfl
        have HTK := Lib.hid htk
        have hlen : l'.length ≤ 800200 := by rw [hl'.out, List.length_append, List.length_append, le_length, flat_len18, List.length_take]; omega
        have HLEN := Lib.hid hlen
        subst hA1
        have d0 := hc1 0 _ rfl
        have d1 := hc1 1 _ rfl
        have d2 := hc1 2 _ rfl
        simp only [Nat.add_zero] at d0
        have HW := Lib.hid hw'
        have HK := Lib.hid hk'
        clear hc1 hr1 hx1 hb1 htk hlen hw' hk'
        go_wp2_with fail
        refine (wQid_any g xs l' ok' x _ HW.out (by have := HLEN.out; omega)).mono ?_
        rintro e w2 ⟨rfl, l2, ok2, hl2, hok2, hw2, hk2⟩
        have HW2 := Lib.hid hw2
        have HK2 := Lib.hid (HK.out.trans hk2)
        clear hw2 hk2 d0 d1 d2
        go_wp2
        go_step3
        refine ⟨rfl, ⟨j + 1, l2, ok2, by omega, Lib.hid ?_, Lib.hid ?_, HW2.out, HK2.out, ?_⟩, ?_⟩
        · rw [hl2.out, hl'.out, HTK.out]; simp [List.append_assoc]
        · rw [hok2.out, hok'.out, HTK.out]; simp [Bool.and_assoc]
        · refine ⟨_, _, _, _, _, _, _, _, _, _, _, _, _, _, _, _, _, _, _, _, _, _, _, _, _, _, _, _, _, _, _, rfl⟩
        · simp [ivOf]; omega
      · obtain rfl : j = n1 := by omega
        have j1 : ¬ (j : Int) < j := by omega
        have HW := Lib.hid hw'
        have HK := Lib.hid hk'
        clear hw' hk'
        go_wp2
        simp only [Exit.jump]
        go_end0
        refine ⟨rfl, l', ok', Lib.hid ?_, Lib.hid ?_, HW.out, HK.out⟩
        · rw [hl'.out]; unfold qidsB; rw [if_pos (by rw [HLQ.out]; omega), List.take_of_length_le (by rw [HLQ.out]; exact Nat.le_refl _), HLQ.out]; simp [List.append_assoc]
        · rw [hok'.out]; unfold qidsOk; rw [decide_eq_true (by rw [HLQ.out]; omega), List.take_of_length_le (by rw [HLQ.out]; exact Nat.le_refl _)]; simp
    · intro hpass
      have HP := Lib.hid hpass
      clear hpass
      go_wp2_with fail
      refine (u16_any A c d l n1 _ HO0.out.rd hcap0.1 (by rw [← HLN0.out]; omega) (by omega)).mono ?_
      rintro e w2 ⟨A2, n2, c2, l2, hl2, rfl, hown2, hb2⟩
      have hB2 := HB0.out.up hb2
      have f18 := hB2.free 18
      have p18 := hB2.cell 18 _ (wr_at18 hx)
      have hw3 := Wr.laid hB2 (hown2.lower (Nat.succ_le_of_lt hgl)) hx
      have hk3 : Keeps (Is g) w (w2.setCell ⟨g, 18, none⟩ (.slice A2 n2 c2)) := (Keeps.of_below hb2).trans ((Keeps.refl (Is g) _).setCell (p := ⟨g, 18, none⟩) (.inl rfl) _)
      have HW3 := Lib.hid hw3
      have HK3 := Lib.hid hk3
      clear hB2 hown2 hb2 hb0 hw3 hk3
      go_wp2
      go_step3
      rename_i hKK
      refine hKK _ _ (HP.out _ _ ?_)
      exact ⟨0, l2, ok, by omega, Lib.hid (by rw [hl2.out]; simp), Lib.hid (by simp), HW3.out, HK3.out, _, _, _, _, _, _, _, _, _, _, _, _, _, _, _, _, _, _, _, _, _, _, _, _, _, _, _, _, _, _, _, rfl⟩

/-- A stat's bytes. -/
def statB (q : QidV) (mode size : Int) (name : List UInt8) : List UInt8 := qidB q ++ le 4 (n32 mode) ++ le 8 (n64 size) ++ txtB name
def statOk (q : QidV) (mode size : Int) (name : List UInt8) : Bool := qidOk q && inB mode 4294967295 && inB size 4611686018427387904 && decide (name.length ≤ 255)
set_option maxRecDepth 20000 in
set_option maxHeartbeats 4000000 in
theorem wStat_any (g : Nat) (xs : List Value) (l : List UInt8) (ok : Bool) (dir : Bool) (ver path mode size : Int) (name : List UInt8) (w : World) (h : Wr w g xs l ok) (hl : l.length ≤ 800000) (hnl : name.length ≤ 1048576) :
    Calls Try.prog 81 #[.pointer (some ⟨g, 0, none⟩), .agg #[.bool dir, .int .i64 ver, .int .i64 path, .int .i64 mode, .int .i64 size, .string (st name)]] w (UnitWr g xs (l ++ statB ⟨dir, ver, path⟩ mode size name) (ok && statOk ⟨dir, ver, path⟩ mode size name) w) := by
  have hQ0 := Blk.new w 27 [.bool dir, .int .i64 ver, .int .i64 path, .int .i64 mode, .int .i64 size, .string (st name)]
  have hW0 := h.alloc (.cells #[.bool dir, .int .i64 ver, .int .i64 path, .int .i64 mode, .int .i64 size, .string (st name)] 27)
  have hk0 : Keeps (Is g) w (w.alloc (.cells #[.bool dir, .int .i64 ver, .int .i64 path, .int .i64 mode, .int .i64 size, .string (st name)] 27)) := (Keeps.refl _ _).alloc _
  have hg := h.lt
  obtain ⟨Q, hQ⟩ : ∃ Q, Q = w.heap.size := ⟨_, rfl⟩
  obtain ⟨W, hW⟩ : ∃ W, W = w.alloc (.cells #[.bool dir, .int .i64 ver, .int .i64 path, .int .i64 mode, .int .i64 size, .string (st name)] 27) := ⟨_, rfl⟩
  have hW' : W = w.alloc (.cells [.bool dir, .int .i64 ver, .int .i64 path, .int .i64 mode, .int .i64 size, .string (st name)].toArray 27) := hW
  rw [← hQ, ← hW'] at hQ0
  rw [← hW] at hW0 hk0
  have hgQ : g < Q := by omega
  have hQn : ¬ Is g Q := fun e => by have e' : Q = g := e; omega
  have hWq := wrap64 size
  have hm := n64_le size
  obtain ⟨m, hmm⟩ : ∃ m, m = n64 size := ⟨_, rfl⟩
  rw [← hmm] at hWq hm
  have HM := Lib.hid hmm
  have q0 := hQ0.cell 0 _ rfl
  have q1 := hQ0.cell 1 _ rfl
  have q2 := hQ0.cell 2 _ rfl
  have HW0 := Lib.hid hW0
  have HQ0 := Lib.hid hQ0
  have HK0 := Lib.hid hk0
  have HQW := Lib.hid hQ
  clear hQ0 hk0 hmm h hg hW' hW0
  go_enter Try.func81, Try.ntmps81
  go_upto_region 1 with fail
  rw [← hW, ← hQ]
  clear hW hQ
  go_wp2_with fail
  refine (wQid_any g xs l ok ⟨dir, ver, path⟩ _ HW0.out (by omega)).mono ?_
  rintro e w3 ⟨rfl, l2, ok2, hl2, hok2, hw3, hk3⟩
  have hlen2 : l2.length ≤ 800013 := by rw [hl2.out, List.length_append, qidB_len]; omega
  have HW3 := Lib.hid hw3
  have HQ3 := Lib.hid (HQ0.out.keeps hk3 hQn)
  have HK3 := Lib.hid (HK0.out.trans hk3)
  have HN2 := Lib.hid hlen2
  clear q0 q1 q2 hw3 hk3 hlen2
  go_wp2_with fail
  refine (wNumber_far g xs l2 ok2 mode w3 HW3.out Q 3 27 _ HQ3.out rfl hgQ (by decide) (by have := HN2.out; omega)).mono ?_
  rintro e w4 ⟨rfl, l4, ok4, hl4, hok4, hw4, hq4, hk4⟩
  have p4 := hq4.cell 4 (.int .i64 size) rfl
  have HQ4 := Lib.hid hq4
  have HW4 := Lib.hid hw4
  have HK4 := Lib.hid ((HK3.out.mono (G' := Two18 g Q) (fun k _ hk => .inl hk)).trans hk4)
  clear hq4 hw4 hk4
  go_wp2_with fail
  refine (wBound_any g xs l4 ok4 size 4611686018427387904 w4 HW4.out).mono ?_
  rintro e w5 ⟨rfl, l5, ok5, hl5, hok5, hw5, hk5⟩
  obtain rfl := hl5.out.symm
  have hq5 := HQ4.out.keeps hk5 hQn
  have hp := hq5.cell 4 (.int .i64 size) rfl
  have hlen4 : l4.length ≤ 800017 := by rw [hl4.out, List.length_append, le_length]; have := HN2.out; omega
  obtain ⟨A5, c5, d5, hB5, ho5, hx⟩ := hw5
  have hb := hB5.cell 18 _ (wr_at18 hx)
  have hcap5 := ho5.cap
  have HLN5 := Lib.hid ho5.len
  have HL4 := Lib.hid hlen4
  have HQ5 := Lib.hid hq5.drew
  have HB5 := Lib.hid hB5.drew
  have HO5 := Lib.hid ho5.drew
  have HK5 := Lib.hid (HK4.out.trans (hk5.mono (G' := Two18 g Q) (fun k _ hk => .inl hk))).drew
  clear hq5 hB5 ho5 hk5 p4 hl5 hlen4
  go_wp2
  refine wp_region_tr (Is g) (.t 0 (.t 1 (.t 2 (.t 3 (.t 5 (.t 6 (.t 7 (.s 4 (.s 8 (.t 9 (.t 10 (.s 11 .nil)))))))))))) (by kernel_rfl) (by kernel_rfl) ?_
  have hp' := cell_abv (G := Is g) (w := w5.drew) hp hQn
  repeat (refine tr_take (by simp only [List.getElem?_toArray, List.getElem?_cons_succ, List.getElem?_cons_zero]; exact rfl) ?_; go_big_quiet_step (fail); refine wpQuiet_nil ?_)
  refine tr_solo (by simp only [List.getElem?_toArray, List.getElem?_cons_succ, List.getElem?_cons_zero]; exact rfl) ?_
  go_wp2
  refine Solo.mk (Keeps.refl _ _) ?_
  refine tr_solo (by simp only [List.getElem?_toArray, List.getElem?_cons_succ, List.getElem?_cons_zero]; exact rfl) ?_
  go_wp2_with fail
  refine (u64_any A5 c5 d5 l4 m _ HO5.out.rd hcap5.1 (by rw [← HLN5.out]; have := HL4.out; omega) hm).mono ?_
  rintro e w6 ⟨A6, n6, c6, l6, hl6, rfl, hown6, hb6⟩
  have hB6 := HB5.out.up hb6
  have f18 := hB6.free 18
  have p18 := hB6.cell 18 _ (wr_at18 hx)
  have HQ6 := Lib.hid (HQ5.out.up hb6)
  have HB6 := Lib.hid hB6
  have HO6 := Lib.hid hown6
  have HK6 := Lib.hid hb6
  clear hB6 hown6
  go_wp2
  refine Solo.up hb6 ?_
  clear hb6
  repeat (refine tr_take (by simp only [List.getElem?_toArray, List.getElem?_cons_succ, List.getElem?_cons_zero]; exact rfl) ?_; go_big_quiet_step (fail); refine wpQuiet_nil ?_)
  refine tr_solo (by simp only [List.getElem?_toArray, List.getElem?_cons_succ, List.getElem?_cons_zero]; exact rfl) ?_
  go_wp2
  refine Solo.mk ((Keeps.refl (Is g) _).setCell (p := ⟨g, 18, none⟩) (.inl rfl) _) ?_
  refine tr_end ?_
  have hw7 := Wr.laid HB6.out (HO6.out.lower (Nat.succ_le_of_lt HB5.out.lt)) hx
  have hk7 : Keeps (Two18 g Q) w (w6.setCell ⟨g, 18, none⟩ (.slice A6 n6 c6)) := HK5.out.trans ((Keeps.of_below HK6.out).trans ((Keeps.refl (Two18 g Q) _).setCell (p := ⟨g, 18, none⟩) (.inl (.inl rfl)) _))
  have hq7 := HQ6.out.keeps ((Keeps.refl (Is g) _).setCell (p := ⟨g, 18, none⟩) (.inl rfl) (.slice A6 n6 c6)) hQn
  have HW7 := Lib.hid hw7
  have HK7 := Lib.hid hk7
  have HQ7 := Lib.hid hq7
  clear hw7 hk7 hq7
  generalize w6.setCell ⟨g, 18, none⟩ (.slice A6 n6 c6) = w7 at HW7 HK7 HQ7 ⊢
  clear f18 p18 hp hp' hb
  go_wp2_with fail
  refine (wText_far g xs l6 ok5 name w7 HW7.out Q 5 27 _ HQ7.out rfl hgQ (by decide) (by rw [hl6.out, List.length_append, le_length]; have := HL4.out; omega) hnl).mono ?_
  rintro e w8 ⟨rfl, l8, ok8, hl8, hok8, hw8, hq8, hk8⟩
  have HW8 := Lib.hid hw8
  have HK8 := Lib.hid (HK7.out.trans hk8)
  clear hw8 hk8 hq8
  go_wp2
  go_end0
  refine ⟨rfl, l8, ok8, Lib.hid ?_, Lib.hid ?_, HW8.out, HK8.out.mono fun k hk hk2 => ?_⟩
  · rw [hl8.out, hl6.out, hl4.out, hl2.out, HM.out]; simp [statB, List.append_assoc]
  · rw [hok8.out, hok5.out, hok4.out, hok2.out]; simp [statOk, Bool.and_assoc]
  · rcases hk2 with e | e
    · exact e
    · have := HQW.out; omega
/-- The parts that are laid of a type. -/
def partsM (k : Int) : List Int := (([[0, 4], [5], [3], [], [6], [5, 1], [5, 1], [7], [2], [], [], [8], []] : List (List Int))[kindsW.findIdx (· == k)]?).getD []
def iv18 (l : List Int) : List Value := l.map (Value.int .i64)
def PartsPost (k : Int) (w : World) (e : Ending) (w' : World) : Prop :=
  ∃ A n c p b, Hid (p = partsM k) ∧ Hid (b = kindsW.contains k) ∧ e = .returned (.tuple #[.slice A n c, .bool b]) ∧ RdV w' w'.heap.size A n (iv18 p) ∧ Below w.heap.size w w'
theorem parts_101 (w : World) : Calls Try.prog 46 #[.int .i64 101] w (PartsPost 101 w) := by
  go_enter Try.func46, Try.ntmps46
  go_wp2
  go_ret2
  exact ⟨some ⟨w.heap.size, 0, none⟩, 2, 2, [0, 4], true, rfl, rfl, rfl, (RdV.new w (iv18 [0, 4]) _ rfl _ _).more (by simp), (Below.refl _ _).alloc (Nat.le_refl _) _⟩
theorem parts_105 (w : World) : Calls Try.prog 46 #[.int .i64 105] w (PartsPost 105 w) := by
  go_enter Try.func46, Try.ntmps46
  go_wp2
  go_ret2
  exact ⟨some ⟨w.heap.size, 0, none⟩, 1, 1, [5], true, rfl, rfl, rfl, (RdV.new w (iv18 [5]) _ rfl _ _).more (by simp), (Below.refl _ _).alloc (Nat.le_refl _) _⟩
theorem parts_107 (w : World) : Calls Try.prog 46 #[.int .i64 107] w (PartsPost 107 w) := by
  go_enter Try.func46, Try.ntmps46
  go_wp2
  go_ret2
  exact ⟨some ⟨w.heap.size, 0, none⟩, 1, 1, [3], true, rfl, rfl, rfl, (RdV.new w (iv18 [3]) _ rfl _ _).more (by simp), (Below.refl _ _).alloc (Nat.le_refl _) _⟩
theorem parts_109 (w : World) : Calls Try.prog 46 #[.int .i64 109] w (PartsPost 109 w) := by
  go_enter Try.func46, Try.ntmps46
  go_wp2
  go_ret2
  exact ⟨none, 0, 0, [], true, rfl, rfl, rfl, RdV.nil, Below.refl _ _⟩
theorem parts_111 (w : World) : Calls Try.prog 46 #[.int .i64 111] w (PartsPost 111 w) := by
  go_enter Try.func46, Try.ntmps46
  go_wp2
  go_ret2
  exact ⟨some ⟨w.heap.size, 0, none⟩, 1, 1, [6], true, rfl, rfl, rfl, (RdV.new w (iv18 [6]) _ rfl _ _).more (by simp), (Below.refl _ _).alloc (Nat.le_refl _) _⟩
theorem parts_113 (w : World) : Calls Try.prog 46 #[.int .i64 113] w (PartsPost 113 w) := by
  go_enter Try.func46, Try.ntmps46
  go_wp2
  go_ret2
  exact ⟨some ⟨w.heap.size, 0, none⟩, 2, 2, [5, 1], true, rfl, rfl, rfl, (RdV.new w (iv18 [5, 1]) _ rfl _ _).more (by simp), (Below.refl _ _).alloc (Nat.le_refl _) _⟩
theorem parts_115 (w : World) : Calls Try.prog 46 #[.int .i64 115] w (PartsPost 115 w) := by
  go_enter Try.func46, Try.ntmps46
  go_wp2
  go_ret2
  exact ⟨some ⟨w.heap.size, 0, none⟩, 2, 2, [5, 1], true, rfl, rfl, rfl, (RdV.new w (iv18 [5, 1]) _ rfl _ _).more (by simp), (Below.refl _ _).alloc (Nat.le_refl _) _⟩
theorem parts_117 (w : World) : Calls Try.prog 46 #[.int .i64 117] w (PartsPost 117 w) := by
  go_enter Try.func46, Try.ntmps46
  go_wp2
  go_ret2
  exact ⟨some ⟨w.heap.size, 0, none⟩, 1, 1, [7], true, rfl, rfl, rfl, (RdV.new w (iv18 [7]) _ rfl _ _).more (by simp), (Below.refl _ _).alloc (Nat.le_refl _) _⟩
theorem parts_119 (w : World) : Calls Try.prog 46 #[.int .i64 119] w (PartsPost 119 w) := by
  go_enter Try.func46, Try.ntmps46
  go_wp2
  go_ret2
  exact ⟨some ⟨w.heap.size, 0, none⟩, 1, 1, [2], true, rfl, rfl, rfl, (RdV.new w (iv18 [2]) _ rfl _ _).more (by simp), (Below.refl _ _).alloc (Nat.le_refl _) _⟩
theorem parts_121 (w : World) : Calls Try.prog 46 #[.int .i64 121] w (PartsPost 121 w) := by
  go_enter Try.func46, Try.ntmps46
  go_wp2
  go_ret2
  exact ⟨none, 0, 0, [], true, rfl, rfl, rfl, RdV.nil, Below.refl _ _⟩
theorem parts_123 (w : World) : Calls Try.prog 46 #[.int .i64 123] w (PartsPost 123 w) := by
  go_enter Try.func46, Try.ntmps46
  go_wp2
  go_ret2
  exact ⟨none, 0, 0, [], true, rfl, rfl, rfl, RdV.nil, Below.refl _ _⟩
theorem parts_125 (w : World) : Calls Try.prog 46 #[.int .i64 125] w (PartsPost 125 w) := by
  go_enter Try.func46, Try.ntmps46
  go_wp2
  go_ret2
  exact ⟨some ⟨w.heap.size, 0, none⟩, 1, 1, [8], true, rfl, rfl, rfl, (RdV.new w (iv18 [8]) _ rfl _ _).more (by simp), (Below.refl _ _).alloc (Nat.le_refl _) _⟩
theorem parts_127 (w : World) : Calls Try.prog 46 #[.int .i64 127] w (PartsPost 127 w) := by
  go_enter Try.func46, Try.ntmps46
  go_wp2
  go_ret2
  exact ⟨none, 0, 0, [], true, rfl, rfl, rfl, RdV.nil, Below.refl _ _⟩
theorem kind_out (k : Int) (h : k ∉ kindsW) : partsM k = [] ∧ kindsW.contains k = false := by
  have h1 : kindsW.findIdx (· == k) = kindsW.length := by
    rw [List.findIdx_eq_length]
    intro x hx
    simp only [beq_eq_false_iff_ne, ne_eq]
    rintro rfl
    exact h hx
  constructor
  · unfold partsM
    rw [h1]; rfl
  · simpa using h
theorem parts_none (k : Int) (h : k ∉ kindsW) (w : World) : Calls Try.prog 46 #[.int .i64 k] w (PartsPost k w) := by
  obtain ⟨hp, hb⟩ := kind_out k h
  have HP := Lib.hid hp
  have HB := Lib.hid hb
  clear hp hb
  simp only [kindsW, List.mem_cons, List.not_mem_nil, or_false, not_or] at h
  obtain ⟨h1, h2, h3, h4, h5, h6, h7, h8, h9, h10, h11, h12, h13⟩ := h
  go_enter Try.func46, Try.ntmps46
  go_wp2
  go_ret2
  exact ⟨none, 0, 0, [], false, Lib.hid HP.out.symm, Lib.hid HB.out.symm, rfl, RdV.nil, Below.refl _ _⟩
theorem parts_any (k : Int) (w : World) : Calls Try.prog 46 #[.int .i64 k] w (PartsPost k w) := by
  by_cases h : k ∈ kindsW
  · simp only [kindsW, List.mem_cons, List.not_mem_nil, or_false] at h
    rcases h with rfl | rfl | rfl | rfl | rfl | rfl | rfl | rfl | rfl | rfl | rfl | rfl | rfl
    · exact parts_101 w
    · exact parts_105 w
    · exact parts_107 w
    · exact parts_109 w
    · exact parts_111 w
    · exact parts_113 w
    · exact parts_115 w
    · exact parts_117 w
    · exact parts_119 w
    · exact parts_121 w
    · exact parts_123 w
    · exact parts_125 w
    · exact parts_127 w
  · exact parts_none k h w

/-- The writer in block g holds the reply t; its Qids and Data lie below g. -/
def WrT (w : World) (g : Nat) (t : TellV) (l : List UInt8) (ok : Bool) : Prop :=
  ∃ Aq nq cq Ad nd cd, Wr w g (tellC t Aq nq cq Ad nd cd) l ok ∧ RdR w g 3 Aq nq (t.qids.map qidC) ∧ RdB w g Ad nd t.data ∧ nd ≤ 1048576 ∧ nq ≤ 1048576
theorem WrT.lt {w : World} {g : Nat} {t : TellV} {l : List UInt8} {ok : Bool} (h : WrT w g t l ok) : g < w.heap.size := by obtain ⟨_, _, _, _, _, _, h, _⟩ := h; exact h.lt
/-- The reply, a part of which is laid (it is nothing then); the part's bytes; may it be? -/
def partT (k : Int) (t : TellV) : TellV :=
  if k = 0 then { t with msize := 0 } else if k = 1 then { t with iounit := 0 } else if k = 2 then { t with count := 0 } else if k = 3 then { t with code := 0 } else if k = 4 then { t with name := [] } else if k = 5 then { t with qid := qidZ } else if k = 6 then { t with qids := [] } else if k = 7 then { t with data := [] } else if k = 8 then { t with sqid := qidZ, smode := 0, ssize := 0, sname := [] } else t
def partB (k : Int) (t : TellV) : List UInt8 :=
  if k = 0 then le 4 (n32 t.msize) else if k = 1 then le 4 (n32 t.iounit) else if k = 2 then le 4 (n32 t.count) else if k = 3 then le 2 (n16 t.code) else if k = 4 then txtB t.name else if k = 5 then qidB t.qid else if k = 6 then qidsB t.qids else if k = 7 then le 4 t.data.length ++ t.data else if k = 8 then statB t.sqid t.smode t.ssize t.sname else []
def partOk (k : Int) (t : TellV) : Bool :=
  if k = 0 then inB t.msize 4294967295 else if k = 1 then inB t.iounit 4294967295 else if k = 2 then inB t.count 4294967295 else if k = 3 then inB t.code 65535 else if k = 4 then decide (t.name.length ≤ 255) else if k = 5 then qidOk t.qid else if k = 6 then qidsOk t.qids else if k = 7 then decide (t.data.length ≤ 1024) else if k = 8 then statOk t.sqid t.smode t.ssize t.sname else true
def UnitT (g : Nat) (t : TellV) (l : List UInt8) (ok : Bool) (w : World) (e : Ending) (w' : World) : Prop :=
  e = .returned (.tuple #[]) ∧ ∃ t' l' ok', Hid (t' = t) ∧ Hid (l' = l) ∧ Hid (ok' = ok) ∧ WrT w' g t' l' ok' ∧ Keeps (Is g) w w'
set_option maxRecDepth 20000 in
set_option maxHeartbeats 4000000 in
theorem wPart_0 (g : Nat) (t : TellV) (l : List UInt8) (ok : Bool) (w : World) (h : WrT w g t l ok) (hl : l.length ≤ 700000) (hnl : t.name.length ≤ 1048576) (hsl : t.sname.length ≤ 1048576) :
    Calls Try.prog 53 #[.pointer (some ⟨g, 0, none⟩), .int .i64 0] w (UnitT g (partT 0 t) (l ++ partB 0 t) (ok && partOk 0 t) w) := by
  obtain ⟨kind, tag, code, msize, iounit, count, name, ⟨qdir, qver, qpath⟩, qids, data, ⟨sdir, sver, spath⟩, smode, ssize, sname⟩ := t
  have hgl := h.lt
  obtain ⟨Aq, nq, cq, Ad, nd, cd, hw, hq, hd, hnd⟩ := h
  have HQ := Lib.hid hq
  have HD := Lib.hid hd
  have HW := Lib.hid hw
  obtain ⟨A, c, d, hB, ho, hx⟩ := hw
  clear hB ho hq hd
  go_enter Try.func53, Try.ntmps53
  go_wp2_with fail
  refine (wNumber_own g _ l ok msize w HW.out 3 (by omega) rfl (by omega)).mono ?_
  rintro e w1 ⟨rfl, l1, ok1, hl1, hok1, hw1, hk1⟩
  have HW1 := Lib.hid hw1
  have HK1 := Lib.hid hk1
  clear hw1 hk1
  go_wp2
  go_end0
  exact ⟨rfl, ⟨kind, tag, code, 0, iounit, count, name, ⟨qdir, qver, qpath⟩, qids, data, ⟨sdir, sver, spath⟩, smode, ssize, sname⟩, l1, ok1, rfl, Lib.hid (by rw [hl1.out]; rfl), Lib.hid (by rw [hok1.out]; rfl), ⟨Aq, nq, cq, Ad, nd, cd, HW1.out, (HQ.out).below (HK1.out.is (Nat.le_refl g) (Nat.le_of_lt hgl)), (HD.out).below (HK1.out.is (Nat.le_refl g) (Nat.le_of_lt hgl)), hnd⟩, HK1.out⟩
set_option maxRecDepth 20000 in
set_option maxHeartbeats 4000000 in
theorem wPart_1 (g : Nat) (t : TellV) (l : List UInt8) (ok : Bool) (w : World) (h : WrT w g t l ok) (hl : l.length ≤ 700000) (hnl : t.name.length ≤ 1048576) (hsl : t.sname.length ≤ 1048576) :
    Calls Try.prog 53 #[.pointer (some ⟨g, 0, none⟩), .int .i64 1] w (UnitT g (partT 1 t) (l ++ partB 1 t) (ok && partOk 1 t) w) := by
  obtain ⟨kind, tag, code, msize, iounit, count, name, ⟨qdir, qver, qpath⟩, qids, data, ⟨sdir, sver, spath⟩, smode, ssize, sname⟩ := t
  have hgl := h.lt
  obtain ⟨Aq, nq, cq, Ad, nd, cd, hw, hq, hd, hnd⟩ := h
  have HQ := Lib.hid hq
  have HD := Lib.hid hd
  have HW := Lib.hid hw
  obtain ⟨A, c, d, hB, ho, hx⟩ := hw
  clear hB ho hq hd
  go_enter Try.func53, Try.ntmps53
  go_wp2_with fail
  refine (wNumber_own g _ l ok iounit w HW.out 4 (by omega) rfl (by omega)).mono ?_
  rintro e w1 ⟨rfl, l1, ok1, hl1, hok1, hw1, hk1⟩
  have HW1 := Lib.hid hw1
  have HK1 := Lib.hid hk1
  clear hw1 hk1
  go_wp2
  go_end0
  exact ⟨rfl, ⟨kind, tag, code, msize, 0, count, name, ⟨qdir, qver, qpath⟩, qids, data, ⟨sdir, sver, spath⟩, smode, ssize, sname⟩, l1, ok1, rfl, Lib.hid (by rw [hl1.out]; rfl), Lib.hid (by rw [hok1.out]; rfl), ⟨Aq, nq, cq, Ad, nd, cd, HW1.out, (HQ.out).below (HK1.out.is (Nat.le_refl g) (Nat.le_of_lt hgl)), (HD.out).below (HK1.out.is (Nat.le_refl g) (Nat.le_of_lt hgl)), hnd⟩, HK1.out⟩
set_option maxRecDepth 20000 in
set_option maxHeartbeats 4000000 in
theorem wPart_2 (g : Nat) (t : TellV) (l : List UInt8) (ok : Bool) (w : World) (h : WrT w g t l ok) (hl : l.length ≤ 700000) (hnl : t.name.length ≤ 1048576) (hsl : t.sname.length ≤ 1048576) :
    Calls Try.prog 53 #[.pointer (some ⟨g, 0, none⟩), .int .i64 2] w (UnitT g (partT 2 t) (l ++ partB 2 t) (ok && partOk 2 t) w) := by
  obtain ⟨kind, tag, code, msize, iounit, count, name, ⟨qdir, qver, qpath⟩, qids, data, ⟨sdir, sver, spath⟩, smode, ssize, sname⟩ := t
  have hgl := h.lt
  obtain ⟨Aq, nq, cq, Ad, nd, cd, hw, hq, hd, hnd⟩ := h
  have HQ := Lib.hid hq
  have HD := Lib.hid hd
  have HW := Lib.hid hw
  obtain ⟨A, c, d, hB, ho, hx⟩ := hw
  clear hB ho hq hd
  go_enter Try.func53, Try.ntmps53
  go_wp2_with fail
  refine (wNumber_own g _ l ok count w HW.out 5 (by omega) rfl (by omega)).mono ?_
  rintro e w1 ⟨rfl, l1, ok1, hl1, hok1, hw1, hk1⟩
  have HW1 := Lib.hid hw1
  have HK1 := Lib.hid hk1
  clear hw1 hk1
  go_wp2
  go_end0
  exact ⟨rfl, ⟨kind, tag, code, msize, iounit, 0, name, ⟨qdir, qver, qpath⟩, qids, data, ⟨sdir, sver, spath⟩, smode, ssize, sname⟩, l1, ok1, rfl, Lib.hid (by rw [hl1.out]; rfl), Lib.hid (by rw [hok1.out]; rfl), ⟨Aq, nq, cq, Ad, nd, cd, HW1.out, (HQ.out).below (HK1.out.is (Nat.le_refl g) (Nat.le_of_lt hgl)), (HD.out).below (HK1.out.is (Nat.le_refl g) (Nat.le_of_lt hgl)), hnd⟩, HK1.out⟩
set_option maxRecDepth 20000 in
set_option maxHeartbeats 4000000 in
theorem wPart_3 (g : Nat) (t : TellV) (l : List UInt8) (ok : Bool) (w : World) (h : WrT w g t l ok) (hl : l.length ≤ 700000) (hnl : t.name.length ≤ 1048576) (hsl : t.sname.length ≤ 1048576) :
    Calls Try.prog 53 #[.pointer (some ⟨g, 0, none⟩), .int .i64 3] w (UnitT g (partT 3 t) (l ++ partB 3 t) (ok && partOk 3 t) w) := by
  obtain ⟨kind, tag, code, msize, iounit, count, name, ⟨qdir, qver, qpath⟩, qids, data, ⟨sdir, sver, spath⟩, smode, ssize, sname⟩ := t
  have hgl := h.lt
  obtain ⟨Aq, nq, cq, Ad, nd, cd, hw, hq, hd, hnd⟩ := h
  have HQ := Lib.hid hq
  have HD := Lib.hid hd
  have HW := Lib.hid hw
  obtain ⟨A, c, d, hB, ho, hx⟩ := hw
  have hW16 := wrap16 code
  have hm := n16_le code
  obtain ⟨m, hmm⟩ : ∃ m, m = n16 code := ⟨_, rfl⟩
  rw [← hmm] at hW16 hm
  have HM := Lib.hid hmm
  have p2 := hB.cell 2 _ (wr_at hx rfl)
  clear hB ho hq hd hmm
  go_enter Try.func53, Try.ntmps53
  go_wp2_with fail
  refine (wBound_any g _ l ok code 65535 w HW.out).mono ?_
  rintro e w1 ⟨rfl, l1, ok1, hl1, hok1, hw1, hk1⟩
  obtain rfl := hl1.out.symm
  clear hl1 p2 hx
  obtain ⟨A1, c1, d1, hB1, ho1, hx⟩ := hw1
  have hcap := ho1.cap
  have HLN := Lib.hid ho1.len
  have hp : w1.cell? ⟨g, 2, none⟩ = some (.int .i64 code) := hB1.cell 2 _ (wr_at hx rfl)
  have hb : w1.cell? ⟨g, 18, none⟩ = some (.slice A1 c1 d1) := hB1.cell 18 _ (wr_at18 hx)
  have HB1 := Lib.hid hB1.drew
  have HO1 := Lib.hid ho1.drew
  have HK1 := Lib.hid hk1.drew
  clear hB1 ho1 hk1
  go_wp2
  refine wp_region_tr (Is g) (.t 0 (.t 1 (.t 2 (.t 3 (.t 5 (.t 6 (.t 7 (.b 4 (.s 8 (.t 9 (.s 10 (.t 11 (.t 12 (.s 13 .nil)))))) 8 (.t 9 (.s 4 (.s 10 (.t 11 (.t 12 (.s 13 .nil)))))))))))))) (by kernel_rfl) (by kernel_rfl) ?_
  repeat (refine tr_take (by simp only [List.getElem?_toArray, List.getElem?_cons_succ, List.getElem?_cons_zero]; exact rfl) ?_; go_big_quiet_step (fail); refine wpQuiet_nil ?_)
  refine tr_both (by simp only [List.getElem?_toArray, List.getElem?_cons_succ, List.getElem?_cons_zero]; exact rfl) (by simp only [List.getElem?_toArray, List.getElem?_cons_succ, List.getElem?_cons_zero]; exact rfl) ?_ ?_
  · go_wp2
    refine Solo.mk (Keeps.refl _ _) ?_
    refine tr_solo (by simp only [List.getElem?_toArray, List.getElem?_cons_succ, List.getElem?_cons_zero]; exact rfl) ?_
    go_wp2
    refine Solo.mk (Keeps.refl _ _) ?_
    repeat (refine tr_take (by simp only [List.getElem?_toArray, List.getElem?_cons_succ, List.getElem?_cons_zero]; exact rfl) ?_; go_big_quiet_step (fail); refine wpQuiet_nil ?_)
    refine tr_solo (by simp only [List.getElem?_toArray, List.getElem?_cons_succ, List.getElem?_cons_zero]; exact rfl) ?_
    go_wp2_with fail
    refine (u16_any A1 c1 d1 l m _ HO1.out.rd hcap.1 (by rw [← HLN.out]; omega) hm).mono ?_
    rintro e w2 ⟨A2, n2, c2, l2, hl2, rfl, hown2, hb2⟩
    have hB2 := HB1.out.up hb2
    have f18 := hB2.free 18
    have p18 := hB2.cell 18 _ (wr_at18 hx)
    have HB2 := Lib.hid hB2
    have HO2 := Lib.hid hown2
    have HK2 := Lib.hid hb2
    have HL1 := Lib.hid HB1.out.lt
    clear hB2 hown2
    go_wp2
    refine Solo.up hb2 ?_
    clear hb2
    repeat (refine tr_take (by simp only [List.getElem?_toArray, List.getElem?_cons_succ, List.getElem?_cons_zero]; exact rfl) ?_; go_big_quiet_step (fail); refine wpQuiet_nil ?_)
    refine tr_solo (by simp only [List.getElem?_toArray, List.getElem?_cons_succ, List.getElem?_cons_zero]; exact rfl) ?_
    go_wp2
    refine Solo.mk ((Keeps.refl (Is g) _).setCell (p := ⟨g, 18, none⟩) (.inl rfl) _) ?_
    refine tr_end ?_
    have hw3 := Wr.laid HB2.out (HO2.out.lower (Nat.succ_le_of_lt HL1.out)) hx
    have hk3 : Keeps (Is g) w (w2.setCell ⟨g, 18, none⟩ (.slice A2 n2 c2)) := HK1.out.trans ((Keeps.of_below HK2.out).trans ((Keeps.refl (Is g) _).setCell (p := ⟨g, 18, none⟩) (.inl rfl) _))
    have f0 : (w2.setCell ⟨g, 18, none⟩ (.slice A2 n2 c2)).frozen? ⟨g, 2, none⟩ = false := by obtain ⟨_, _, _, h3, _⟩ := hw3; exact h3.free 2
    have p0 : (w2.setCell ⟨g, 18, none⟩ (.slice A2 n2 c2)).cell? ⟨g, 2, none⟩ = some (.int .i64 code) := by obtain ⟨_, _, _, h3, _, hx3⟩ := hw3; exact h3.cell 2 _ (wr_at hx3 rfl)
    have HW3 := Lib.hid (hw3.field (i := 2) (by omega) (.int .i64 0))
    have HK3 := Lib.hid (hk3.setCell (p := ⟨g, 2, none⟩) (.inl rfl) (.int .i64 0))
    clear hw3 hk3
    generalize w2.setCell ⟨g, 18, none⟩ (.slice A2 n2 c2) = w3 at HW3 HK3 f0 p0 ⊢
    clear f18 p18 hp hb
    go_wp2
    go_end0
    exact ⟨rfl, ⟨kind, tag, 0, msize, iounit, count, name, ⟨qdir, qver, qpath⟩, qids, data, ⟨sdir, sver, spath⟩, smode, ssize, sname⟩, l2, ok1, rfl, Lib.hid (by rw [hl2.out, HM.out]; rfl), Lib.hid (by rw [hok1.out]; rfl), ⟨Aq, nq, cq, Ad, nd, cd, HW3.out, (HQ.out).below (HK3.out.is (Nat.le_refl g) (Nat.le_of_lt hgl)), (HD.out).below (HK3.out.is (Nat.le_refl g) (Nat.le_of_lt hgl)), hnd⟩, HK3.out⟩

  · go_wp2
    refine Solo.mk (Keeps.refl _ _) ?_
    repeat (refine tr_take (by simp only [List.getElem?_toArray, List.getElem?_cons_succ, List.getElem?_cons_zero]; exact rfl) ?_; go_big_quiet_step (fail); refine wpQuiet_nil ?_)
    refine tr_solo (by simp only [List.getElem?_toArray, List.getElem?_cons_succ, List.getElem?_cons_zero]; exact rfl) ?_
    go_wp2
    refine Solo.mk (Keeps.refl _ _) ?_
    refine tr_solo (by simp only [List.getElem?_toArray, List.getElem?_cons_succ, List.getElem?_cons_zero]; exact rfl) ?_
    go_wp2_with fail
    refine (u16_any A1 c1 d1 l m _ HO1.out.rd hcap.1 (by rw [← HLN.out]; omega) hm).mono ?_
    rintro e w2 ⟨A2, n2, c2, l2, hl2, rfl, hown2, hb2⟩
    have hB2 := HB1.out.up hb2
    have f18 := hB2.free 18
    have p18 := hB2.cell 18 _ (wr_at18 hx)
    have HB2 := Lib.hid hB2
    have HO2 := Lib.hid hown2
    have HK2 := Lib.hid hb2
    have HL1 := Lib.hid HB1.out.lt
    clear hB2 hown2
    go_wp2
    refine Solo.up hb2 ?_
    clear hb2
    repeat (refine tr_take (by simp only [List.getElem?_toArray, List.getElem?_cons_succ, List.getElem?_cons_zero]; exact rfl) ?_; go_big_quiet_step (fail); refine wpQuiet_nil ?_)
    refine tr_solo (by simp only [List.getElem?_toArray, List.getElem?_cons_succ, List.getElem?_cons_zero]; exact rfl) ?_
    go_wp2
    refine Solo.mk ((Keeps.refl (Is g) _).setCell (p := ⟨g, 18, none⟩) (.inl rfl) _) ?_
    refine tr_end ?_
    have hw3 := Wr.laid HB2.out (HO2.out.lower (Nat.succ_le_of_lt HL1.out)) hx
    have hk3 : Keeps (Is g) w (w2.setCell ⟨g, 18, none⟩ (.slice A2 n2 c2)) := HK1.out.trans ((Keeps.of_below HK2.out).trans ((Keeps.refl (Is g) _).setCell (p := ⟨g, 18, none⟩) (.inl rfl) _))
    have f0 : (w2.setCell ⟨g, 18, none⟩ (.slice A2 n2 c2)).frozen? ⟨g, 2, none⟩ = false := by obtain ⟨_, _, _, h3, _⟩ := hw3; exact h3.free 2
    have p0 : (w2.setCell ⟨g, 18, none⟩ (.slice A2 n2 c2)).cell? ⟨g, 2, none⟩ = some (.int .i64 code) := by obtain ⟨_, _, _, h3, _, hx3⟩ := hw3; exact h3.cell 2 _ (wr_at hx3 rfl)
    have HW3 := Lib.hid (hw3.field (i := 2) (by omega) (.int .i64 0))
    have HK3 := Lib.hid (hk3.setCell (p := ⟨g, 2, none⟩) (.inl rfl) (.int .i64 0))
    clear hw3 hk3
    generalize w2.setCell ⟨g, 18, none⟩ (.slice A2 n2 c2) = w3 at HW3 HK3 f0 p0 ⊢
    clear f18 p18 hp hb
    go_wp2
    go_end0
    exact ⟨rfl, ⟨kind, tag, 0, msize, iounit, count, name, ⟨qdir, qver, qpath⟩, qids, data, ⟨sdir, sver, spath⟩, smode, ssize, sname⟩, l2, ok1, rfl, Lib.hid (by rw [hl2.out, HM.out]; rfl), Lib.hid (by rw [hok1.out]; rfl), ⟨Aq, nq, cq, Ad, nd, cd, HW3.out, (HQ.out).below (HK3.out.is (Nat.le_refl g) (Nat.le_of_lt hgl)), (HD.out).below (HK3.out.is (Nat.le_refl g) (Nat.le_of_lt hgl)), hnd⟩, HK3.out⟩
set_option maxRecDepth 20000 in
set_option maxHeartbeats 4000000 in
theorem wPart_4 (g : Nat) (t : TellV) (l : List UInt8) (ok : Bool) (w : World) (h : WrT w g t l ok) (hl : l.length ≤ 700000) (hnl : t.name.length ≤ 1048576) (hsl : t.sname.length ≤ 1048576) :
    Calls Try.prog 53 #[.pointer (some ⟨g, 0, none⟩), .int .i64 4] w (UnitT g (partT 4 t) (l ++ partB 4 t) (ok && partOk 4 t) w) := by
  obtain ⟨kind, tag, code, msize, iounit, count, name, ⟨qdir, qver, qpath⟩, qids, data, ⟨sdir, sver, spath⟩, smode, ssize, sname⟩ := t
  have hgl := h.lt
  obtain ⟨Aq, nq, cq, Ad, nd, cd, hw, hq, hd, hnd⟩ := h
  have HQ := Lib.hid hq
  have HD := Lib.hid hd
  have HW := Lib.hid hw
  obtain ⟨A, c, d, hB, ho, hx⟩ := hw
  clear hB ho hq hd
  go_enter Try.func53, Try.ntmps53
  go_wp2_with fail
  refine (wText_own g _ l ok name w HW.out 6 (by omega) rfl (by omega) hnl).mono ?_
  rintro e w1 ⟨rfl, l1, ok1, hl1, hok1, hw1, hk1⟩
  have HW1 := Lib.hid hw1
  have HK1 := Lib.hid hk1
  clear hw1 hk1
  go_wp2
  go_end0
  exact ⟨rfl, ⟨kind, tag, code, msize, iounit, count, [], ⟨qdir, qver, qpath⟩, qids, data, ⟨sdir, sver, spath⟩, smode, ssize, sname⟩, l1, ok1, rfl, Lib.hid (by rw [hl1.out]; rfl), Lib.hid (by rw [hok1.out]; rfl), ⟨Aq, nq, cq, Ad, nd, cd, HW1.out, (HQ.out).below (HK1.out.is (Nat.le_refl g) (Nat.le_of_lt hgl)), (HD.out).below (HK1.out.is (Nat.le_refl g) (Nat.le_of_lt hgl)), hnd⟩, HK1.out⟩
set_option maxRecDepth 20000 in
set_option maxHeartbeats 4000000 in
theorem wPart_5 (g : Nat) (t : TellV) (l : List UInt8) (ok : Bool) (w : World) (h : WrT w g t l ok) (hl : l.length ≤ 700000) (hnl : t.name.length ≤ 1048576) (hsl : t.sname.length ≤ 1048576) :
    Calls Try.prog 53 #[.pointer (some ⟨g, 0, none⟩), .int .i64 5] w (UnitT g (partT 5 t) (l ++ partB 5 t) (ok && partOk 5 t) w) := by
  obtain ⟨kind, tag, code, msize, iounit, count, name, ⟨qdir, qver, qpath⟩, qids, data, ⟨sdir, sver, spath⟩, smode, ssize, sname⟩ := t
  have hgl := h.lt
  obtain ⟨Aq, nq, cq, Ad, nd, cd, hw, hq, hd, hnd⟩ := h
  have HQ := Lib.hid hq
  have HD := Lib.hid hd
  have HW := Lib.hid hw
  obtain ⟨A, c, d, hB, ho, hx⟩ := hw
  have p0 := hB.cell 7 _ (wr_at hx rfl)
  have p1 := hB.cell 8 _ (wr_at hx rfl)
  have p2 := hB.cell 9 _ (wr_at hx rfl)
  clear hB ho hq hd
  go_enter Try.func53, Try.ntmps53
  go_wp2_with fail
  refine (wQid_any g _ l ok ⟨qdir, qver, qpath⟩ w HW.out (by omega)).mono ?_
  rintro e w1 ⟨rfl, l1, ok1, hl1, hok1, hw1, hk1⟩
  clear hx
  obtain ⟨A1, c1, d1, hB1, ho1, hx⟩ := hw1
  have hz := hB1.setRow (tellC ⟨kind, tag, code, msize, iounit, count, name, qidZ, qids, data, ⟨sdir, sver, spath⟩, smode, ssize, sname⟩ Aq nq cq Ad nd cd ++ [Value.slice A1 c1 d1, Value.bool ok1])
  have hks := keeps_setRow w1 (g := g) (tellC ⟨kind, tag, code, msize, iounit, count, name, qidZ, qids, data, ⟨sdir, sver, spath⟩, smode, ssize, sname⟩ Aq nq cq Ad nd cd ++ [Value.slice A1 c1 d1, Value.bool ok1]).toArray
  have hw2 : Wr (w1.setRow g (tellC ⟨kind, tag, code, msize, iounit, count, name, qidZ, qids, data, ⟨sdir, sver, spath⟩, smode, ssize, sname⟩ Aq nq cq Ad nd cd ++ [Value.slice A1 c1 d1, Value.bool ok1]).toArray) g (tellC ⟨kind, tag, code, msize, iounit, count, name, qidZ, qids, data, ⟨sdir, sver, spath⟩, smode, ssize, sname⟩ Aq nq cq Ad nd cd) l1 ok1 := ⟨A1, c1, d1, hz, ho1.keeps hks (fun k hk => not_is hk), rfl⟩
  have hk2 := hk1.trans hks
  have HW2 := Lib.hid hw2
  have HK2 := Lib.hid hk2
  have HB1 := Lib.hid hB1
  clear hk1 ho1 hz hks hw2 hk2 hB1 p0 p1 p2
  go_wp2_with (refine wpList_storeMid8 rfl (.tmp 72) (.tmp 70) rfl rfl [.bool false, .int .i64 0, .int .i64 0] (tellC ⟨kind, tag, code, msize, iounit, count, name, qidZ, qids, data, ⟨sdir, sver, spath⟩, smode, ssize, sname⟩ Aq nq cq Ad nd cd ++ [Value.slice A1 c1 d1, Value.bool ok1]) rfl rfl (by kernel_rfl) HB1.out (by simp [tellC]) (by simp [Value.oneCell']) rfl ?_)
  go_end0
  exact ⟨rfl, ⟨kind, tag, code, msize, iounit, count, name, qidZ, qids, data, ⟨sdir, sver, spath⟩, smode, ssize, sname⟩, l1, ok1, rfl, Lib.hid (by rw [hl1.out]; rfl), Lib.hid (by rw [hok1.out]; rfl), ⟨Aq, nq, cq, Ad, nd, cd, HW2.out, (HQ.out).below (HK2.out.is (Nat.le_refl g) (Nat.le_of_lt hgl)), (HD.out).below (HK2.out.is (Nat.le_refl g) (Nat.le_of_lt hgl)), hnd⟩, HK2.out⟩
set_option maxRecDepth 20000 in
set_option maxHeartbeats 4000000 in
theorem wPart_6 (g : Nat) (t : TellV) (l : List UInt8) (ok : Bool) (w : World) (h : WrT w g t l ok) (hl : l.length ≤ 700000) (hnl : t.name.length ≤ 1048576) (hsl : t.sname.length ≤ 1048576) :
    Calls Try.prog 53 #[.pointer (some ⟨g, 0, none⟩), .int .i64 6] w (UnitT g (partT 6 t) (l ++ partB 6 t) (ok && partOk 6 t) w) := by
  obtain ⟨kind, tag, code, msize, iounit, count, name, ⟨qdir, qver, qpath⟩, qids, data, ⟨sdir, sver, spath⟩, smode, ssize, sname⟩ := t
  have hgl := h.lt
  obtain ⟨Aq, nq, cq, Ad, nd, cd, hw, hq, hd, hnd⟩ := h
  have HQ := Lib.hid hq
  have HD := Lib.hid hd
  have HW := Lib.hid hw
  obtain ⟨A, c, d, hB, ho, hx⟩ := hw
  have p10 := hB.cell 10 _ (wr_at hx rfl)
  clear hB ho hq hd
  go_enter Try.func53, Try.ntmps53
  go_wp2_with fail
  refine (wQids_any g _ l ok Aq nq cq qids w HW.out HQ.out (by omega)).mono ?_
  rintro e w1 ⟨rfl, l1, ok1, hl1, hok1, hw1, hk1⟩
  have f0 : w1.frozen? ⟨g, 10, none⟩ = false := by obtain ⟨_, _, _, h3, _⟩ := hw1; exact h3.free 10
  have p0 : w1.cell? ⟨g, 10, none⟩ = some (.slice Aq nq cq) := by obtain ⟨_, _, _, h3, _, hx3⟩ := hw1; exact h3.cell 10 _ (wr_at hx3 rfl)
  have HW1 := Lib.hid (hw1.field (i := 10) (by omega) (.slice none 0 0))
  have HK1 := Lib.hid (hk1.setCell (p := ⟨g, 10, none⟩) (.inl rfl) (.slice none 0 0))
  clear hw1 hk1 p10
  go_wp2
  go_end0
  exact ⟨rfl, ⟨kind, tag, code, msize, iounit, count, name, ⟨qdir, qver, qpath⟩, [], data, ⟨sdir, sver, spath⟩, smode, ssize, sname⟩, l1, ok1, rfl, Lib.hid (by rw [hl1.out]; rfl), Lib.hid (by rw [hok1.out]; rfl), ⟨none, 0, 0, Ad, nd, cd, HW1.out, RdR.nil, (HD.out).below (HK1.out.is (Nat.le_refl g) (Nat.le_of_lt hgl)), ⟨hnd.1, by omega⟩⟩, HK1.out⟩
set_option maxRecDepth 20000 in
set_option maxHeartbeats 4000000 in
theorem wPart_7 (g : Nat) (t : TellV) (l : List UInt8) (ok : Bool) (w : World) (h : WrT w g t l ok) (hl : l.length ≤ 700000) (hnl : t.name.length ≤ 1048576) (hsl : t.sname.length ≤ 1048576) :
    Calls Try.prog 53 #[.pointer (some ⟨g, 0, none⟩), .int .i64 7] w (UnitT g (partT 7 t) (l ++ partB 7 t) (ok && partOk 7 t) w) := by
  obtain ⟨kind, tag, code, msize, iounit, count, name, ⟨qdir, qver, qpath⟩, qids, data, ⟨sdir, sver, spath⟩, smode, ssize, sname⟩ := t
  have hgl := h.lt
  obtain ⟨Aq, nq, cq, Ad, nd, cd, hw, hq, hd, hnd⟩ := h
  have HQ := Lib.hid hq
  have HD := Lib.hid hd
  have HW := Lib.hid hw
  obtain ⟨A, c, d, hB, ho, hx⟩ := hw
  have p11 := hB.cell 11 _ (wr_at hx rfl)
  have p19 := hB.cell 19 _ (wr_at19 hx)
  have f19 := hB.free 19
  have hln : data.length = nd := hd.len
  have HLD := Lib.hid hln
  obtain ⟨ok1, hok1⟩ : ∃ b, Hid (b = (ok && decide (data.length ≤ 1024))) := ⟨_, rfl⟩
  have hw1 := Wr.note hB ho hx ok1
  have hk1 : Keeps (Is g) w (w.setCell ⟨g, 19, none⟩ (.bool ok1)) := (Keeps.refl (Is g) _).setCell (p := ⟨g, 19, none⟩) (.inl rfl) _
  obtain ⟨w1, hw1e⟩ : ∃ w1, w1 = w.setCell ⟨g, 19, none⟩ (.bool ok1) := ⟨_, rfl⟩
  rw [← hw1e] at hw1 hk1
  obtain ⟨A1, c1, d1, hB1, ho1, hx1⟩ := hw1
  have hcap := ho1.cap
  have HLN := Lib.hid ho1.len
  have hp : w1.cell? ⟨g, 11, none⟩ = some (.slice Ad nd cd) := hB1.cell 11 _ (wr_at hx1 rfl)
  have hb : w1.cell? ⟨g, 18, none⟩ = some (.slice A1 c1 d1) := hB1.cell 18 _ (wr_at18 hx1)
  have HR1 := Lib.hid ((hd.below (hk1.is (Nat.le_refl g) (Nat.le_of_lt hgl))).drew.more (Nat.le_of_lt hB1.drew.lt))
  have HB1 := Lib.hid hB1.drew
  have HO1 := Lib.hid ho1.drew
  have HK1 := Lib.hid hk1.drew
  clear hB ho hq hd hB1 ho1 hk1 hln
  clear hx
  have hw : (ok = false ∧ ok1 = false) ∨ (ok = true ∧ ok1 = true ∧ (nd : Int) ≤ 1024) ∨ (ok = true ∧ ok1 = false ∧ ¬ (nd : Int) ≤ 1024) := by
    have h1 := hok1.out
    have h2 := HLD.out
    by_cases h3 : data.length ≤ 1024
    · rw [decide_eq_true h3] at h1
      rcases ok with _ | _
      · exact .inl ⟨rfl, by simpa using h1⟩
      · exact .inr (.inl ⟨rfl, by simpa using h1, by omega⟩)
    · rw [decide_eq_false h3] at h1
      rcases ok with _ | _
      · exact .inl ⟨rfl, by simpa using h1⟩
      · exact .inr (.inr ⟨rfl, by simpa using h1, by omega⟩)
  rcases hw with ⟨rfl, rfl⟩ | ⟨rfl, rfl, hlen⟩ | ⟨rfl, rfl, hlen⟩
  all_goals
    go_enter Try.func53, Try.ntmps53
    go_upto_region 22 with fail
    rw [← hw1e]
    clear hw1e p11 p19 f19
    refine wp_region_tr (Is g) (.t 0 (.t 1 (.t 2 (.t 3 (.t 5 (.t 6 (.t 7 (.b 4 (.s 8 (.s 9 (.t 10 (.t 11 (.s 12 .nil))))) 8 (.s 4 (.s 9 (.t 10 (.t 11 (.s 12 .nil))))))))))))) (by kernel_rfl) (by kernel_rfl) ?_
    repeat (refine tr_take (by simp only [List.getElem?_toArray, List.getElem?_cons_succ, List.getElem?_cons_zero]; exact rfl) ?_; go_big_quiet_step (fail); refine wpQuiet_nil ?_)
    refine tr_both (by simp only [List.getElem?_toArray, List.getElem?_cons_succ, List.getElem?_cons_zero]; exact rfl) (by simp only [List.getElem?_toArray, List.getElem?_cons_succ, List.getElem?_cons_zero]; exact rfl) ?_ ?_
    · go_wp2
      refine Solo.mk (Keeps.refl _ _) ?_
      refine tr_solo (by simp only [List.getElem?_toArray, List.getElem?_cons_succ, List.getElem?_cons_zero]; exact rfl) ?_
      go_wp2
      refine Solo.mk (Keeps.refl _ _) ?_
      refine tr_solo (by simp only [List.getElem?_toArray, List.getElem?_cons_succ, List.getElem?_cons_zero]; exact rfl) ?_
      go_wp2_with fail
      refine (data_any A1 c1 d1 l Ad nd cd data _ HO1.out.rd hcap.1 (by rw [← HLN.out]; omega) HR1.out hnd.1).mono ?_
      rintro e w2 ⟨A2, n2, c2, l2, hl2, rfl, hown2, hb2⟩
      have hB2 := HB1.out.up hb2
      have f18 := hB2.free 18
      have p18 := hB2.cell 18 _ (wr_at18 hx1)
      have HB2 := Lib.hid hB2
      have HO2 := Lib.hid hown2
      have HK2 := Lib.hid hb2
      have HL1 := Lib.hid HB1.out.lt
      clear hB2 hown2
      go_wp2
      refine Solo.up hb2 ?_
      clear hb2
      repeat (refine tr_take (by simp only [List.getElem?_toArray, List.getElem?_cons_succ, List.getElem?_cons_zero]; exact rfl) ?_; go_big_quiet_step (fail); refine wpQuiet_nil ?_)
      refine tr_solo (by simp only [List.getElem?_toArray, List.getElem?_cons_succ, List.getElem?_cons_zero]; exact rfl) ?_
      go_wp2
      refine Solo.mk ((Keeps.refl (Is g) _).setCell (p := ⟨g, 18, none⟩) (.inl rfl) _) ?_
      refine tr_end ?_
      have hw3 := Wr.laid HB2.out (HO2.out.lower (Nat.succ_le_of_lt HL1.out)) hx1
      have hk3 : Keeps (Is g) w (w2.setCell ⟨g, 18, none⟩ (.slice A2 n2 c2)) := HK1.out.trans ((Keeps.of_below HK2.out).trans ((Keeps.refl (Is g) _).setCell (p := ⟨g, 18, none⟩) (.inl rfl) _))
      have f0 : (w2.setCell ⟨g, 18, none⟩ (.slice A2 n2 c2)).frozen? ⟨g, 11, none⟩ = false := by obtain ⟨_, _, _, h3, _⟩ := hw3; exact h3.free 11
      have p0 : (w2.setCell ⟨g, 18, none⟩ (.slice A2 n2 c2)).cell? ⟨g, 11, none⟩ = some (.slice Ad nd cd) := by obtain ⟨_, _, _, h3, _, hx3⟩ := hw3; exact h3.cell 11 _ (wr_at hx3 rfl)
      have HW3 := Lib.hid (hw3.field (i := 11) (by omega) (.slice none 0 0))
      have HK3 := Lib.hid (hk3.setCell (p := ⟨g, 11, none⟩) (.inl rfl) (.slice none 0 0))
      clear hw3 hk3
      generalize w2.setCell ⟨g, 18, none⟩ (.slice A2 n2 c2) = w3 at HW3 HK3 f0 p0 ⊢
      clear f18 p18 hp hb
      go_wp2
      go_end0
      exact ⟨rfl, ⟨kind, tag, code, msize, iounit, count, name, ⟨qdir, qver, qpath⟩, qids, [], ⟨sdir, sver, spath⟩, smode, ssize, sname⟩, l2, _, rfl, Lib.hid (by rw [hl2.out, ← HLD.out, List.append_assoc]; rfl), Lib.hid (by exact hok1.out), ⟨Aq, nq, cq, none, 0, 0, HW3.out, (HQ.out).below (HK3.out.is (Nat.le_refl g) (Nat.le_of_lt hgl)), RdB.nil, ⟨by omega, hnd.2⟩⟩, HK3.out⟩
    · go_wp2
      refine Solo.mk (Keeps.refl _ _) ?_
      refine tr_solo (by simp only [List.getElem?_toArray, List.getElem?_cons_succ, List.getElem?_cons_zero]; exact rfl) ?_
      go_wp2
      refine Solo.mk (Keeps.refl _ _) ?_
      refine tr_solo (by simp only [List.getElem?_toArray, List.getElem?_cons_succ, List.getElem?_cons_zero]; exact rfl) ?_
      go_wp2_with fail
      refine (data_any A1 c1 d1 l Ad nd cd data _ HO1.out.rd hcap.1 (by rw [← HLN.out]; omega) HR1.out hnd.1).mono ?_
      rintro e w2 ⟨A2, n2, c2, l2, hl2, rfl, hown2, hb2⟩
      have hB2 := HB1.out.up hb2
      have f18 := hB2.free 18
      have p18 := hB2.cell 18 _ (wr_at18 hx1)
      have HB2 := Lib.hid hB2
      have HO2 := Lib.hid hown2
      have HK2 := Lib.hid hb2
      have HL1 := Lib.hid HB1.out.lt
      clear hB2 hown2
      go_wp2
      refine Solo.up hb2 ?_
      clear hb2
      repeat (refine tr_take (by simp only [List.getElem?_toArray, List.getElem?_cons_succ, List.getElem?_cons_zero]; exact rfl) ?_; go_big_quiet_step (fail); refine wpQuiet_nil ?_)
      refine tr_solo (by simp only [List.getElem?_toArray, List.getElem?_cons_succ, List.getElem?_cons_zero]; exact rfl) ?_
      go_wp2
      refine Solo.mk ((Keeps.refl (Is g) _).setCell (p := ⟨g, 18, none⟩) (.inl rfl) _) ?_
      refine tr_end ?_
      have hw3 := Wr.laid HB2.out (HO2.out.lower (Nat.succ_le_of_lt HL1.out)) hx1
      have hk3 : Keeps (Is g) w (w2.setCell ⟨g, 18, none⟩ (.slice A2 n2 c2)) := HK1.out.trans ((Keeps.of_below HK2.out).trans ((Keeps.refl (Is g) _).setCell (p := ⟨g, 18, none⟩) (.inl rfl) _))
      have f0 : (w2.setCell ⟨g, 18, none⟩ (.slice A2 n2 c2)).frozen? ⟨g, 11, none⟩ = false := by obtain ⟨_, _, _, h3, _⟩ := hw3; exact h3.free 11
      have p0 : (w2.setCell ⟨g, 18, none⟩ (.slice A2 n2 c2)).cell? ⟨g, 11, none⟩ = some (.slice Ad nd cd) := by obtain ⟨_, _, _, h3, _, hx3⟩ := hw3; exact h3.cell 11 _ (wr_at hx3 rfl)
      have HW3 := Lib.hid (hw3.field (i := 11) (by omega) (.slice none 0 0))
      have HK3 := Lib.hid (hk3.setCell (p := ⟨g, 11, none⟩) (.inl rfl) (.slice none 0 0))
      clear hw3 hk3
      generalize w2.setCell ⟨g, 18, none⟩ (.slice A2 n2 c2) = w3 at HW3 HK3 f0 p0 ⊢
      clear f18 p18 hp hb
      go_wp2
      go_end0
      exact ⟨rfl, ⟨kind, tag, code, msize, iounit, count, name, ⟨qdir, qver, qpath⟩, qids, [], ⟨sdir, sver, spath⟩, smode, ssize, sname⟩, l2, _, rfl, Lib.hid (by rw [hl2.out, ← HLD.out, List.append_assoc]; rfl), Lib.hid (by exact hok1.out), ⟨Aq, nq, cq, none, 0, 0, HW3.out, (HQ.out).below (HK3.out.is (Nat.le_refl g) (Nat.le_of_lt hgl)), RdB.nil, ⟨by omega, hnd.2⟩⟩, HK3.out⟩
set_option maxRecDepth 20000 in
set_option maxHeartbeats 4000000 in
theorem wPart_8 (g : Nat) (t : TellV) (l : List UInt8) (ok : Bool) (w : World) (h : WrT w g t l ok) (hl : l.length ≤ 700000) (hnl : t.name.length ≤ 1048576) (hsl : t.sname.length ≤ 1048576) :
    Calls Try.prog 53 #[.pointer (some ⟨g, 0, none⟩), .int .i64 8] w (UnitT g (partT 8 t) (l ++ partB 8 t) (ok && partOk 8 t) w) := by
  obtain ⟨kind, tag, code, msize, iounit, count, name, ⟨qdir, qver, qpath⟩, qids, data, ⟨sdir, sver, spath⟩, smode, ssize, sname⟩ := t
  have hgl := h.lt
  obtain ⟨Aq, nq, cq, Ad, nd, cd, hw, hq, hd, hnd⟩ := h
  have HQ := Lib.hid hq
  have HD := Lib.hid hd
  have HW := Lib.hid hw
  obtain ⟨A, c, d, hB, ho, hx⟩ := hw
  have p0 := hB.cell 12 _ (wr_at hx rfl)
  have p1 := hB.cell 13 _ (wr_at hx rfl)
  have p2 := hB.cell 14 _ (wr_at hx rfl)
  have p3 := hB.cell 15 _ (wr_at hx rfl)
  have p4 := hB.cell 16 _ (wr_at hx rfl)
  have p5 := hB.cell 17 _ (wr_at hx rfl)
  clear hB ho hq hd
  go_enter Try.func53, Try.ntmps53
  go_wp2_with fail
  refine (wStat_any g _ l ok sdir sver spath smode ssize sname w HW.out (by omega) hsl).mono ?_
  rintro e w1 ⟨rfl, l1, ok1, hl1, hok1, hw1, hk1⟩
  clear hx
  obtain ⟨A1, c1, d1, hB1, ho1, hx⟩ := hw1
  have hz := hB1.setRow (tellC ⟨kind, tag, code, msize, iounit, count, name, ⟨qdir, qver, qpath⟩, qids, data, qidZ, 0, 0, []⟩ Aq nq cq Ad nd cd ++ [Value.slice A1 c1 d1, Value.bool ok1])
  have hks := keeps_setRow w1 (g := g) (tellC ⟨kind, tag, code, msize, iounit, count, name, ⟨qdir, qver, qpath⟩, qids, data, qidZ, 0, 0, []⟩ Aq nq cq Ad nd cd ++ [Value.slice A1 c1 d1, Value.bool ok1]).toArray
  have hw2 : Wr (w1.setRow g (tellC ⟨kind, tag, code, msize, iounit, count, name, ⟨qdir, qver, qpath⟩, qids, data, qidZ, 0, 0, []⟩ Aq nq cq Ad nd cd ++ [Value.slice A1 c1 d1, Value.bool ok1]).toArray) g (tellC ⟨kind, tag, code, msize, iounit, count, name, ⟨qdir, qver, qpath⟩, qids, data, qidZ, 0, 0, []⟩ Aq nq cq Ad nd cd) l1 ok1 := ⟨A1, c1, d1, hz, ho1.keeps hks (fun k hk => not_is hk), rfl⟩
  have hk2 := hk1.trans hks
  have HW2 := Lib.hid hw2
  have HK2 := Lib.hid hk2
  have HB1 := Lib.hid hB1
  clear hk1 ho1 hz hks hw2 hk2 hB1 p0 p1 p2 p3 p4 p5
  go_wp2_with (refine wpList_storeMid8 rfl (.tmp 127) (.tmp 125) rfl rfl [.bool false, .int .i64 0, .int .i64 0, .int .i64 0, .int .i64 0, .string ByteArray.empty] (tellC ⟨kind, tag, code, msize, iounit, count, name, ⟨qdir, qver, qpath⟩, qids, data, qidZ, 0, 0, []⟩ Aq nq cq Ad nd cd ++ [Value.slice A1 c1 d1, Value.bool ok1]) rfl rfl (by kernel_rfl) HB1.out (by simp [tellC]) (by simp [Value.oneCell']) rfl ?_)
  go_end0
  exact ⟨rfl, ⟨kind, tag, code, msize, iounit, count, name, ⟨qdir, qver, qpath⟩, qids, data, qidZ, 0, 0, []⟩, l1, ok1, rfl, Lib.hid (by rw [hl1.out]; rfl), Lib.hid (by rw [hok1.out]; rfl), ⟨Aq, nq, cq, Ad, nd, cd, HW2.out, (HQ.out).below (HK2.out.is (Nat.le_refl g) (Nat.le_of_lt hgl)), (HD.out).below (HK2.out.is (Nat.le_refl g) (Nat.le_of_lt hgl)), hnd⟩, HK2.out⟩
end Go.Proofs.Ytoplkglnjgllnaa
