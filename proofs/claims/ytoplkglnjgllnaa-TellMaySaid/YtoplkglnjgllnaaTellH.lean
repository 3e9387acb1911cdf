/-
  tell's writer: number, text.
-/
import Derived.Test.YtoplkglnjgllnaaTellG
import Derived.Test.YtoplkglnjgllnaaPlan3
namespace Go.Proofs.Ytoplkglnjgllnaa
open Go.RowKit
set_option linter.unusedVariables false
set_option linter.unusedSimpArgs false

/-- A number's 32 bits, its 64 bits. -/
def n32 (n : Int) : Nat := (n % 4294967296).toNat
def n64 (n : Int) : Nat := (n % 18446744073709551616).toNat
def n16 (n : Int) : Nat := (n % 65536).toNat
def n8 (n : Int) : Nat := (n % 256).toNat
theorem wrap32 (n : Int) : IntKind.u32.wrap n = (n32 n : Int) := by
  simp only [n32, IntKind.wrap, IntKind.signed, IntKind.bits]
  simp [Int.toNat_of_nonneg (Int.emod_nonneg n (by decide : (4294967296 : Int) ≠ 0))]
theorem wrap64 (n : Int) : IntKind.u64.wrap n = (n64 n : Int) := by
  simp only [n64, IntKind.wrap, IntKind.signed, IntKind.bits]
  simp [Int.toNat_of_nonneg (Int.emod_nonneg n (by decide : (18446744073709551616 : Int) ≠ 0))]
theorem wrap16 (n : Int) : IntKind.u16.wrap n = (n16 n : Int) := by
  simp only [n16, IntKind.wrap, IntKind.signed, IntKind.bits]
  simp [Int.toNat_of_nonneg (Int.emod_nonneg n (by decide : (65536 : Int) ≠ 0))]
theorem wrap8 (n : Int) : IntKind.u8.wrap n = (n8 n : Int) := by
  simp only [n8, IntKind.wrap, IntKind.signed, IntKind.bits]
  simp [Int.toNat_of_nonneg (Int.emod_nonneg n (by decide : (256 : Int) ≠ 0))]
theorem n32_le (n : Int) : n32 n ≤ 4294967295 := by unfold n32; omega
theorem n64_le (n : Int) : n64 n ≤ 18446744073709551615 := by unfold n64; omega
theorem n16_le (n : Int) : n16 n ≤ 65535 := by unfold n16; omega
theorem n8_le (n : Int) : n8 n ≤ 255 := by unfold n8; omega

set_option maxHeartbeats 2000000 in
theorem wNumber_own (g : Nat) (xs : List Value) (l : List UInt8) (ok : Bool) (n : Int) (w : World) (h : Wr w g xs l ok) (i : Nat) (hi : i < 18) (hv : xs[i]? = some (.int .i64 n)) (hl : l.length ≤ 1000000) :
    Calls Try.prog 76 #[.pointer (some ⟨g, 0, none⟩), .pointer (some ⟨g, i, none⟩)] w (UnitWr g (xs.set i (.int .i64 0)) (l ++ le 4 (n32 n)) (ok && inB n 4294967295) w) := by
  have hW32 := wrap32 n
  have hm := n32_le n
  obtain ⟨m, hmm⟩ : ∃ m, m = n32 n := ⟨_, rfl⟩
  rw [← hmm] at hW32 hm ⊢
  have hp : w.cell? ⟨g, i, none⟩ = some (.int .i64 n) := by obtain ⟨A, c, d, hB, _, hx⟩ := h; exact hB.cell i _ (wr_at hx hv)
  have H := Lib.hid h
  have HM := Lib.hid hmm
  clear h hmm
  go_enter Try.func76, Try.ntmps76
  go_wp2_with fail
  refine (wBound_any g xs l ok n 4294967295 _ H.out).mono ?_
  rintro e w1 ⟨rfl, l1, ok1, hl1, hok1, hw1, hk1⟩
  obtain rfl := hl1.out.symm
  clear hl1 H hp
  obtain ⟨A, c, d, hB1, ho1, hx⟩ := hw1
  have hln := ho1.len
  have hcap := ho1.cap
  have HLN := Lib.hid hln
  have hp : w1.cell? ⟨g, i, none⟩ = some (.int .i64 n) := hB1.cell i _ (wr_at hx hv)
  have hb : w1.cell? ⟨g, 18, none⟩ = some (.slice A c d) := hB1.cell 18 _ (wr_at18 hx)
  have HB1 := Lib.hid hB1.drew
  have HO1 := Lib.hid ho1.drew
  have HK1 := Lib.hid hk1.drew
  clear hB1 ho1 hln hk1
  go_wp2
  refine wp_region_tr (Is g) (.t 0 (.t 1 (.t 2 (.t 3 (.t 5 (.t 6 (.b 4 (.s 7 (.t 8 (.s 9 (.t 10 (.t 11 (.s 12 .nil)))))) 7 (.t 8 (.s 4 (.s 9 (.t 10 (.t 11 (.s 12 .nil))))))))))))) (by kernel_rfl) (by kernel_rfl) ?_
  repeat (refine tr_take (by simp only [List.getElem?_toArray, List.getElem?_cons_succ, List.getElem?_cons_zero]; exact rfl) ?_; go_big_quiet_step (fail); refine wpQuiet_nil ?_)
  refine tr_both (by simp only [List.getElem?_toArray, List.getElem?_cons_succ, List.getElem?_cons_zero]; exact rfl) (by simp only [List.getElem?_toArray, List.getElem?_cons_succ, List.getElem?_cons_zero]; exact rfl) ?_ ?_
  · go_wp2
    refine Solo.mk (Keeps.refl _ _) ?_
    refine tr_solo (by simp only [List.getElem?_toArray, List.getElem?_cons_succ, List.getElem?_cons_zero]; exact rfl) ?_
    go_wp2
    refine Solo.mk (Keeps.refl _ _) ?_
    repeat (refine tr_take (by simp only [List.getElem?_toArray, List.getElem?_cons_succ, List.getElem?_cons_zero]; exact rfl) ?_; go_big_quiet_step (fail); refine wpQuiet_nil ?_)
    refine tr_solo (by simp only [List.getElem?_toArray, List.getElem?_cons_succ, List.getElem?_cons_zero]; exact rfl) ?_
    go_wp2_with fail
    refine (u32_any A c d l m _ HO1.out.rd hcap.1 (by rw [← HLN.out]; omega) hm).mono ?_
    rintro e w2 ⟨A2, n2, c2, l2, hl2, rfl, hown2, hb2⟩
    have hB2 := HB1.out.up hb2
    have f18 := hB2.free 18
    have p18 := hB2.cell 18 _ (wr_at18 hx)
    have HB2 := Lib.hid hB2
    have HO2 := Lib.hid hown2
    have HK2 := Lib.hid hb2
    have HL1 := Lib.hid HB1.out.lt
    clear hB2 hown2
    go_wp2
    refine Solo.up hb2 ?_
    clear hb2
    repeat (refine tr_take (by simp only [List.getElem?_toArray, List.getElem?_cons_succ, List.getElem?_cons_zero]; exact rfl) ?_; go_big_quiet_step (fail); refine wpQuiet_nil ?_)
    refine tr_solo (by simp only [List.getElem?_toArray, List.getElem?_cons_succ, List.getElem?_cons_zero]; exact rfl) ?_
    go_wp2
    refine Solo.mk ((Keeps.refl (Is g) _).setCell (p := ⟨g, 18, none⟩) (.inl rfl) _) ?_
    refine tr_end ?_
    have hw3 := Wr.laid HB2.out (HO2.out.lower (Nat.succ_le_of_lt HL1.out)) hx
    have hk3 : Keeps (Is g) w (w2.setCell ⟨g, 18, none⟩ (.slice A2 n2 c2)) := HK1.out.trans ((Keeps.of_below HK2.out).trans ((Keeps.refl (Is g) _).setCell (p := ⟨g, 18, none⟩) (.inl rfl) _))
    have f0 : (w2.setCell ⟨g, 18, none⟩ (.slice A2 n2 c2)).frozen? ⟨g, i, none⟩ = false := by obtain ⟨_, _, _, h3, _⟩ := hw3; exact h3.free i
    have p0 : (w2.setCell ⟨g, 18, none⟩ (.slice A2 n2 c2)).cell? ⟨g, i, none⟩ = some (.int .i64 n) := by obtain ⟨_, _, _, h3, _, hx3⟩ := hw3; exact h3.cell i _ (wr_at hx3 hv)
    have HW3 := Lib.hid hw3
    have HK3 := Lib.hid hk3
    clear hw3 hk3
    generalize w2.setCell ⟨g, 18, none⟩ (.slice A2 n2 c2) = w3 at HW3 HK3 f0 p0 ⊢
    clear f18 p18
    go_wp2
    go_end0
    exact ⟨rfl, l2, ok1, Lib.hid (by rw [hl2.out, HM.out]), hok1, HW3.out.field hi _, HK3.out.setCell (p := ⟨g, i, none⟩) (.inl rfl) _⟩
  · go_wp2
    refine Solo.mk (Keeps.refl _ _) ?_
    repeat (refine tr_take (by simp only [List.getElem?_toArray, List.getElem?_cons_succ, List.getElem?_cons_zero]; exact rfl) ?_; go_big_quiet_step (fail); refine wpQuiet_nil ?_)
    refine tr_solo (by simp only [List.getElem?_toArray, List.getElem?_cons_succ, List.getElem?_cons_zero]; exact rfl) ?_
    go_wp2
    refine Solo.mk (Keeps.refl _ _) ?_
    refine tr_solo (by simp only [List.getElem?_toArray, List.getElem?_cons_succ, List.getElem?_cons_zero]; exact rfl) ?_
    go_wp2_with fail
    refine (u32_any A c d l m _ HO1.out.rd hcap.1 (by rw [← HLN.out]; omega) hm).mono ?_
    rintro e w2 ⟨A2, n2, c2, l2, hl2, rfl, hown2, hb2⟩
    have hB2 := HB1.out.up hb2
    have f18 := hB2.free 18
    have p18 := hB2.cell 18 _ (wr_at18 hx)
    have HB2 := Lib.hid hB2
    have HO2 := Lib.hid hown2
    have HK2 := Lib.hid hb2
    have HL1 := Lib.hid HB1.out.lt
    clear hB2 hown2
    go_wp2
    refine Solo.up hb2 ?_
    clear hb2
    repeat (refine tr_take (by simp only [List.getElem?_toArray, List.getElem?_cons_succ, List.getElem?_cons_zero]; exact rfl) ?_; go_big_quiet_step (fail); refine wpQuiet_nil ?_)
    refine tr_solo (by simp only [List.getElem?_toArray, List.getElem?_cons_succ, List.getElem?_cons_zero]; exact rfl) ?_
    go_wp2
    refine Solo.mk ((Keeps.refl (Is g) _).setCell (p := ⟨g, 18, none⟩) (.inl rfl) _) ?_
    refine tr_end ?_
    have hw3 := Wr.laid HB2.out (HO2.out.lower (Nat.succ_le_of_lt HL1.out)) hx
    have hk3 : Keeps (Is g) w (w2.setCell ⟨g, 18, none⟩ (.slice A2 n2 c2)) := HK1.out.trans ((Keeps.of_below HK2.out).trans ((Keeps.refl (Is g) _).setCell (p := ⟨g, 18, none⟩) (.inl rfl) _))
    have f0 : (w2.setCell ⟨g, 18, none⟩ (.slice A2 n2 c2)).frozen? ⟨g, i, none⟩ = false := by obtain ⟨_, _, _, h3, _⟩ := hw3; exact h3.free i
    have p0 : (w2.setCell ⟨g, 18, none⟩ (.slice A2 n2 c2)).cell? ⟨g, i, none⟩ = some (.int .i64 n) := by obtain ⟨_, _, _, h3, _, hx3⟩ := hw3; exact h3.cell i _ (wr_at hx3 hv)
    have HW3 := Lib.hid hw3
    have HK3 := Lib.hid hk3
    clear hw3 hk3
    generalize w2.setCell ⟨g, 18, none⟩ (.slice A2 n2 c2) = w3 at HW3 HK3 f0 p0 ⊢
    clear f18 p18
    go_wp2
    go_end0
    exact ⟨rfl, l2, ok1, Lib.hid (by rw [hl2.out, HM.out]), hok1, HW3.out.field hi _, HK3.out.setCell (p := ⟨g, i, none⟩) (.inl rfl) _⟩

set_option maxHeartbeats 2000000 in
theorem wNumber_far (g : Nat) (xs : List Value) (l : List UInt8) (ok : Bool) (n : Int) (w : World) (h : Wr w g xs l ok) (q j : Nat) (t : TypeId) (cs : List Value) (hq : Blk w q t cs) (hv : cs[j]? = some (.int .i64 n)) (hqg : g < q) (ht : t ≠ 5) (hl : l.length ≤ 1000000) :
    Calls Try.prog 76 #[.pointer (some ⟨g, 0, none⟩), .pointer (some ⟨q, j, none⟩)] w (fun e w' => e = .returned (.tuple #[]) ∧ ∃ l' ok', Hid (l' = l ++ le 4 (n32 n)) ∧ Hid (ok' = (ok && inB n 4294967295)) ∧ Wr w' g xs l' ok' ∧ Blk w' q t (cs.set j (.int .i64 0)) ∧ Keeps (Two18 g q) w w') := by
  have hW32 := wrap32 n
  have hm := n32_le n
  obtain ⟨m, hmm⟩ : ∃ m, m = n32 n := ⟨_, rfl⟩
  rw [← hmm] at hW32 hm ⊢
  have hp : w.cell? ⟨q, j, none⟩ = some (.int .i64 n) := hq.cell j _ hv
  have HQ := Lib.hid hq
  clear hq
  have H := Lib.hid h
  have HM := Lib.hid hmm
  clear h hmm
  go_enter Try.func76, Try.ntmps76
  go_wp2_with fail
  refine (wBound_any g xs l ok n 4294967295 _ H.out).mono ?_
  rintro e w1 ⟨rfl, l1, ok1, hl1, hok1, hw1, hk1⟩
  obtain rfl := hl1.out.symm
  clear hl1 H hp
  obtain ⟨A, c, d, hB1, ho1, hx⟩ := hw1
  have hln := ho1.len
  have hcap := ho1.cap
  have HLN := Lib.hid hln
  have hq1 := HQ.out.keeps hk1 (fun e => by have e' : q = g := e; omega)
  have hp : w1.cell? ⟨q, j, none⟩ = some (.int .i64 n) := hq1.cell j _ hv
  have HQ1 := Lib.hid hq1.drew
  clear hq1
  have hb : w1.cell? ⟨g, 18, none⟩ = some (.slice A c d) := hB1.cell 18 _ (wr_at18 hx)
  have HB1 := Lib.hid hB1.drew
  have HO1 := Lib.hid ho1.drew
  have HK1 := Lib.hid hk1.drew
  clear hB1 ho1 hln hk1
  go_wp2
  refine wp_region_tr (Is g) (.t 0 (.t 1 (.t 2 (.t 3 (.t 5 (.t 6 (.t 7 (.t 8 (.s 4 (.s 9 (.t 10 (.t 11 (.s 12 .nil))))))))))))) (by kernel_rfl) (by kernel_rfl) ?_
  have hp' := cell_abv (G := Is g) (w := w1.drew) hp (fun e => by have e' : q = g := e; omega)
  repeat (refine tr_take (by simp only [List.getElem?_toArray, List.getElem?_cons_succ, List.getElem?_cons_zero]; exact rfl) ?_; go_big_quiet_step (fail); refine wpQuiet_nil ?_)
  refine tr_solo (by simp only [List.getElem?_toArray, List.getElem?_cons_succ, List.getElem?_cons_zero]; exact rfl) ?_
  go_wp2
  refine Solo.mk (Keeps.refl _ _) ?_
  refine tr_solo (by simp only [List.getElem?_toArray, List.getElem?_cons_succ, List.getElem?_cons_zero]; exact rfl) ?_
  go_wp2_with fail
  refine (u32_any A c d l m _ HO1.out.rd hcap.1 (by rw [← HLN.out]; omega) hm).mono ?_
  rintro e w2 ⟨A2, n2, c2, l2, hl2, rfl, hown2, hb2⟩
  have hB2 := HB1.out.up hb2
  have f18 := hB2.free 18
  have p18 := hB2.cell 18 _ (wr_at18 hx)
  have HB2 := Lib.hid hB2
  have HO2 := Lib.hid hown2
  have HK2 := Lib.hid hb2
  have HL1 := Lib.hid HB1.out.lt
  have hq2 := HQ1.out.up hb2
  have HQ2 := Lib.hid hq2
  clear hq2
  clear hB2 hown2
  go_wp2
  refine Solo.up hb2 ?_
  clear hb2
  repeat (refine tr_take (by simp only [List.getElem?_toArray, List.getElem?_cons_succ, List.getElem?_cons_zero]; exact rfl) ?_; go_big_quiet_step (fail); refine wpQuiet_nil ?_)
  refine tr_solo (by simp only [List.getElem?_toArray, List.getElem?_cons_succ, List.getElem?_cons_zero]; exact rfl) ?_
  go_wp2
  refine Solo.mk ((Keeps.refl (Is g) _).setCell (p := ⟨g, 18, none⟩) (.inl rfl) _) ?_
  refine tr_end ?_
  have hw3 := Wr.laid HB2.out (HO2.out.lower (Nat.succ_le_of_lt HL1.out)) hx
  have hk3 : Keeps (Is g) w (w2.setCell ⟨g, 18, none⟩ (.slice A2 n2 c2)) := HK1.out.trans ((Keeps.of_below HK2.out).trans ((Keeps.refl (Is g) _).setCell (p := ⟨g, 18, none⟩) (.inl rfl) _))
  have hq3 := HQ2.out.keeps ((Keeps.refl (Is g) _).setCell (p := ⟨g, 18, none⟩) (.inl rfl) (.slice A2 n2 c2)) (fun e => by have e' : q = g := e; omega)
  have f0 := hq3.free j
  have p0 := hq3.cell j _ hv
  have HW3 := Lib.hid hw3
  have HK3 := Lib.hid hk3
  have HQ3 := Lib.hid hq3
  clear hw3 hk3 hq3
  generalize w2.setCell ⟨g, 18, none⟩ (.slice A2 n2 c2) = w3 at HW3 HK3 HQ3 f0 p0 ⊢
  clear f18 p18
  go_wp2
  go_end0
  refine ⟨rfl, l2, ok1, Lib.hid (by rw [hl2.out, HM.out]), hok1, ?_, HQ3.out.set j _, (HK3.out.mono (fun k _ hk => .inl hk)).setCell (p := ⟨q, j, none⟩) (.inl (.inr rfl)) _⟩
  exact HW3.out.far HQ3.out ht (by omega) ((Keeps.refl (Is q) _).setCell (p := ⟨q, j, none⟩) (.inl rfl) _)

/-- A text's bytes; what is too long is not laid. -/
def txtB (s : List UInt8) : List UInt8 := if s.length ≤ 255 then le 2 s.length ++ s else []

set_option maxHeartbeats 2000000 in
theorem wText_own (g : Nat) (xs : List Value) (l : List UInt8) (ok : Bool) (s : List UInt8) (w : World) (h : Wr w g xs l ok) (i : Nat) (hi : i < 18) (hv : xs[i]? = some (.string (st s))) (hl : l.length ≤ 1000000) (hsl : s.length ≤ 1048576) :
    Calls Try.prog 77 #[.pointer (some ⟨g, 0, none⟩), .pointer (some ⟨g, i, none⟩)] w (UnitWr g (xs.set i (.string (st []))) (l ++ txtB s) (ok && decide (s.length ≤ 255)) w) := by
  have hz : st s = st s := rfl
  have hsz : (st s).size = s.length := st_size s
  have hp : w.cell? ⟨g, i, none⟩ = some (.string (st s)) := by obtain ⟨A, c, d, hB, _, hx⟩ := h; exact hB.cell i _ (wr_at hx hv)
  clear hz
  have H := Lib.hid h
  obtain ⟨A, c, d, hB1, ho1, hx⟩ := h
  have hln := ho1.len
  have hcap := ho1.cap
  have HLN := Lib.hid hln
  have hb : w.cell? ⟨g, 18, none⟩ = some (.slice A c d) := hB1.cell 18 _ (wr_at18 hx)
  have p19 := hB1.cell 19 _ (wr_at19 hx)
  have f19 := hB1.free 19
  have HB1 := Lib.hid hB1.drew
  have HO1 := Lib.hid ho1.drew
  by_cases hlong : 255 < s.length
  case pos =>
    have hw1 := Wr.note hB1 ho1 hx false
    have hk1 : Keeps (Is g) w (w.setCell ⟨g, 19, none⟩ (.bool false)) := (Keeps.refl (Is g) _).setCell (p := ⟨g, 19, none⟩) (.inl rfl) _
    have p0 : (w.setCell ⟨g, 19, none⟩ (.bool false)).cell? ⟨g, i, none⟩ = some (.string (st s)) := by obtain ⟨_, _, _, h3, _, hx3⟩ := hw1; exact h3.cell i _ (wr_at hx3 hv)
    have f0 : (w.setCell ⟨g, 19, none⟩ (.bool false)).frozen? ⟨g, i, none⟩ = false := by obtain ⟨_, _, _, h3, _⟩ := hw1; exact h3.free i
    have HW1 := Lib.hid hw1
    have HK1 := Lib.hid hk1
    have hli : (255 : Int) < s.length := by omega
    clear hw1 hk1 hB1 ho1 hb HB1 HO1 hln
    go_enter Try.func77, Try.ntmps77
    go_wp2
    go_end0
    have htx : txtB s = [] := by unfold txtB; rw [if_neg (by omega)]
    have hok : (ok && decide (s.length ≤ 255)) = false := by rw [decide_eq_false (by omega)]; simp
    exact ⟨rfl, l, false, Lib.hid (by rw [htx, List.append_nil]), Lib.hid hok.symm, HW1.out.field hi _, HK1.out.setCell (p := ⟨g, i, none⟩) (.inl rfl) _⟩
  have hli : ¬ (255 : Int) < s.length := by omega
  have htx : txtB s = le 2 s.length ++ s := by unfold txtB; rw [if_pos (by omega)]
  have hok : (ok && decide (s.length ≤ 255)) = ok := by rw [decide_eq_true (by omega)]; simp
  have HTX := Lib.hid htx
  have HOK := Lib.hid hok
  clear htx hok hB1 ho1 hln p19 f19 H
  go_enter Try.func77, Try.ntmps77
  go_wp2
  refine wp_region_tr (Is g) (.t 0 (.t 1 (.t 2 (.t 3 (.t 5 (.t 6 (.b 4 (.s 7 (.s 8 (.t 9 (.t 10 (.s 11 .nil))))) 7 (.s 4 (.s 8 (.t 9 (.t 10 (.s 11 .nil)))))))))))) (by kernel_rfl) (by kernel_rfl) ?_
  repeat (refine tr_take (by simp only [List.getElem?_toArray, List.getElem?_cons_succ, List.getElem?_cons_zero]; exact rfl) ?_; go_big_quiet_step (fail); refine wpQuiet_nil ?_)
  refine tr_both (by simp only [List.getElem?_toArray, List.getElem?_cons_succ, List.getElem?_cons_zero]; exact rfl) (by simp only [List.getElem?_toArray, List.getElem?_cons_succ, List.getElem?_cons_zero]; exact rfl) ?_ ?_
  · go_wp2
    refine Solo.mk (Keeps.refl _ _) ?_
    refine tr_solo (by simp only [List.getElem?_toArray, List.getElem?_cons_succ, List.getElem?_cons_zero]; exact rfl) ?_
    go_wp2
    refine Solo.mk (Keeps.refl _ _) ?_
    refine tr_solo (by simp only [List.getElem?_toArray, List.getElem?_cons_succ, List.getElem?_cons_zero]; exact rfl) ?_
    go_wp2_with fail
    refine (text_any A c d l s _ HO1.out.rd hcap.1 (by rw [← HLN.out]; omega) (by omega)).mono ?_
    rintro e w2 ⟨A2, n2, c2, l2, hl2, rfl, hown2, hb2⟩
    have hB2 := HB1.out.up hb2
    have f18 := hB2.free 18
    have p18 := hB2.cell 18 _ (wr_at18 hx)
    have HB2 := Lib.hid hB2
    have HO2 := Lib.hid hown2
    have HK2 := Lib.hid hb2
    have HL1 := Lib.hid HB1.out.lt
    clear hB2 hown2
    go_wp2
    refine Solo.up hb2 ?_
    clear hb2
    repeat (refine tr_take (by simp only [List.getElem?_toArray, List.getElem?_cons_succ, List.getElem?_cons_zero]; exact rfl) ?_; go_big_quiet_step (fail); refine wpQuiet_nil ?_)
    refine tr_solo (by simp only [List.getElem?_toArray, List.getElem?_cons_succ, List.getElem?_cons_zero]; exact rfl) ?_
    go_wp2
    refine Solo.mk ((Keeps.refl (Is g) _).setCell (p := ⟨g, 18, none⟩) (.inl rfl) _) ?_
    refine tr_end ?_
    have hw3 := Wr.laid HB2.out (HO2.out.lower (Nat.succ_le_of_lt HL1.out)) hx
    have hk3 : Keeps (Is g) w (w2.setCell ⟨g, 18, none⟩ (.slice A2 n2 c2)) := (Keeps.refl (Is g) w).drew.trans ((Keeps.of_below HK2.out).trans ((Keeps.refl (Is g) _).setCell (p := ⟨g, 18, none⟩) (.inl rfl) _))
    have f0 : (w2.setCell ⟨g, 18, none⟩ (.slice A2 n2 c2)).frozen? ⟨g, i, none⟩ = false := by obtain ⟨_, _, _, h3, _⟩ := hw3; exact h3.free i
    have p0 : (w2.setCell ⟨g, 18, none⟩ (.slice A2 n2 c2)).cell? ⟨g, i, none⟩ = some (.string (st s)) := by obtain ⟨_, _, _, h3, _, hx3⟩ := hw3; exact h3.cell i _ (wr_at hx3 hv)
    have HW3 := Lib.hid hw3
    have HK3 := Lib.hid hk3
    clear hw3 hk3
    generalize w2.setCell ⟨g, 18, none⟩ (.slice A2 n2 c2) = w3 at HW3 HK3 f0 p0 ⊢
    clear f18 p18 hb hp
    go_wp2
    go_end0
    exact ⟨rfl, l2, ok, Lib.hid (by rw [hl2.out, HTX.out, List.append_assoc]), Lib.hid HOK.out.symm, HW3.out.field hi _, HK3.out.setCell (p := ⟨g, i, none⟩) (.inl rfl) _⟩
  · go_wp2
    refine Solo.mk (Keeps.refl _ _) ?_
    refine tr_solo (by simp only [List.getElem?_toArray, List.getElem?_cons_succ, List.getElem?_cons_zero]; exact rfl) ?_
    go_wp2
    refine Solo.mk (Keeps.refl _ _) ?_
    refine tr_solo (by simp only [List.getElem?_toArray, List.getElem?_cons_succ, List.getElem?_cons_zero]; exact rfl) ?_
    go_wp2_with fail
    refine (text_any A c d l s _ HO1.out.rd hcap.1 (by rw [← HLN.out]; omega) (by omega)).mono ?_
    rintro e w2 ⟨A2, n2, c2, l2, hl2, rfl, hown2, hb2⟩
    have hB2 := HB1.out.up hb2
    have f18 := hB2.free 18
    have p18 := hB2.cell 18 _ (wr_at18 hx)
    have HB2 := Lib.hid hB2
    have HO2 := Lib.hid hown2
    have HK2 := Lib.hid hb2
    have HL1 := Lib.hid HB1.out.lt
    clear hB2 hown2
    go_wp2
    refine Solo.up hb2 ?_
    clear hb2
    repeat (refine tr_take (by simp only [List.getElem?_toArray, List.getElem?_cons_succ, List.getElem?_cons_zero]; exact rfl) ?_; go_big_quiet_step (fail); refine wpQuiet_nil ?_)
    refine tr_solo (by simp only [List.getElem?_toArray, List.getElem?_cons_succ, List.getElem?_cons_zero]; exact rfl) ?_
    go_wp2
    refine Solo.mk ((Keeps.refl (Is g) _).setCell (p := ⟨g, 18, none⟩) (.inl rfl) _) ?_
    refine tr_end ?_
    have hw3 := Wr.laid HB2.out (HO2.out.lower (Nat.succ_le_of_lt HL1.out)) hx
    have hk3 : Keeps (Is g) w (w2.setCell ⟨g, 18, none⟩ (.slice A2 n2 c2)) := (Keeps.refl (Is g) w).drew.trans ((Keeps.of_below HK2.out).trans ((Keeps.refl (Is g) _).setCell (p := ⟨g, 18, none⟩) (.inl rfl) _))
    have f0 : (w2.setCell ⟨g, 18, none⟩ (.slice A2 n2 c2)).frozen? ⟨g, i, none⟩ = false := by obtain ⟨_, _, _, h3, _⟩ := hw3; exact h3.free i
    have p0 : (w2.setCell ⟨g, 18, none⟩ (.slice A2 n2 c2)).cell? ⟨g, i, none⟩ = some (.string (st s)) := by obtain ⟨_, _, _, h3, _, hx3⟩ := hw3; exact h3.cell i _ (wr_at hx3 hv)
    have HW3 := Lib.hid hw3
    have HK3 := Lib.hid hk3
    clear hw3 hk3
    generalize w2.setCell ⟨g, 18, none⟩ (.slice A2 n2 c2) = w3 at HW3 HK3 f0 p0 ⊢
    clear f18 p18 hb hp
    go_wp2
    go_end0
    exact ⟨rfl, l2, ok, Lib.hid (by rw [hl2.out, HTX.out, List.append_assoc]), Lib.hid HOK.out.symm, HW3.out.field hi _, HK3.out.setCell (p := ⟨g, i, none⟩) (.inl rfl) _⟩

set_option maxHeartbeats 2000000 in
theorem wText_far (g : Nat) (xs : List Value) (l : List UInt8) (ok : Bool) (s : List UInt8) (w : World) (h : Wr w g xs l ok) (q j : Nat) (t : TypeId) (cs : List Value) (hq : Blk w q t cs) (hv : cs[j]? = some (.string (st s))) (hqg : g < q) (ht : t ≠ 5) (hl : l.length ≤ 1000000) (hsl : s.length ≤ 1048576) :
    Calls Try.prog 77 #[.pointer (some ⟨g, 0, none⟩), .pointer (some ⟨q, j, none⟩)] w (fun e w' => e = .returned (.tuple #[]) ∧ ∃ l' ok', Hid (l' = l ++ txtB s) ∧ Hid (ok' = (ok && decide (s.length ≤ 255))) ∧ Wr w' g xs l' ok' ∧ Blk w' q t (cs.set j (.string (st []))) ∧ Keeps (Two18 g q) w w') := by
  have hz : st s = st s := rfl
  have hsz : (st s).size = s.length := st_size s
  have hp : w.cell? ⟨q, j, none⟩ = some (.string (st s)) := hq.cell j _ hv
  clear hz
  have HQ := Lib.hid hq
  clear hq
  have H := Lib.hid h
  obtain ⟨A, c, d, hB1, ho1, hx⟩ := h
  have hln := ho1.len
  have hcap := ho1.cap
  have HLN := Lib.hid hln
  have hb : w.cell? ⟨g, 18, none⟩ = some (.slice A c d) := hB1.cell 18 _ (wr_at18 hx)
  have p19 := hB1.cell 19 _ (wr_at19 hx)
  have f19 := hB1.free 19
  have HB1 := Lib.hid hB1.drew
  have HO1 := Lib.hid ho1.drew
  by_cases hlong : 255 < s.length
  case pos =>
    have hw1 := Wr.note hB1 ho1 hx false
    have hk1 : Keeps (Is g) w (w.setCell ⟨g, 19, none⟩ (.bool false)) := (Keeps.refl (Is g) _).setCell (p := ⟨g, 19, none⟩) (.inl rfl) _
    have hq1 := HQ.out.keeps hk1 (fun e => by have e' : q = g := e; omega)
    have p0 := hq1.cell j _ hv
    have f0 := hq1.free j
    have HQ1 := Lib.hid hq1
    clear hq1
    have HW1 := Lib.hid hw1
    have HK1 := Lib.hid hk1
    have hli : (255 : Int) < s.length := by omega
    clear hw1 hk1 hB1 ho1 hb HB1 HO1 hln
    go_enter Try.func77, Try.ntmps77
    go_wp2
    go_end0
    have htx : txtB s = [] := by unfold txtB; rw [if_neg (by omega)]
    have hok : (ok && decide (s.length ≤ 255)) = false := by rw [decide_eq_false (by omega)]; simp
    exact ⟨rfl, l, false, Lib.hid (by rw [htx, List.append_nil]), Lib.hid hok.symm, HW1.out.far HQ1.out ht (by omega) ((Keeps.refl (Is q) _).setCell (p := ⟨q, j, none⟩) (.inl rfl) _), HQ1.out.set j _, (HK1.out.mono (fun k _ hk => .inl hk)).setCell (p := ⟨q, j, none⟩) (.inl (.inr rfl)) _⟩
  have hli : ¬ (255 : Int) < s.length := by omega
  have htx : txtB s = le 2 s.length ++ s := by unfold txtB; rw [if_pos (by omega)]
  have hok : (ok && decide (s.length ≤ 255)) = ok := by rw [decide_eq_true (by omega)]; simp
  have HTX := Lib.hid htx
  have HOK := Lib.hid hok
  clear htx hok hB1 ho1 hln p19 f19 H
  have HQ1 := Lib.hid HQ.out.drew
  go_enter Try.func77, Try.ntmps77
  go_wp2
  refine wp_region_tr (Is g) (.t 0 (.t 1 (.t 2 (.t 3 (.t 5 (.t 6 (.t 7 (.s 4 (.s 8 (.t 9 (.t 10 (.s 11 .nil)))))))))))) (by kernel_rfl) (by kernel_rfl) ?_
  have hp' := cell_abv (G := Is g) (w := w.drew) hp (fun e => by have e' : q = g := e; omega)
  repeat (refine tr_take (by simp only [List.getElem?_toArray, List.getElem?_cons_succ, List.getElem?_cons_zero]; exact rfl) ?_; go_big_quiet_step (fail); refine wpQuiet_nil ?_)
  refine tr_solo (by simp only [List.getElem?_toArray, List.getElem?_cons_succ, List.getElem?_cons_zero]; exact rfl) ?_
  go_wp2
  refine Solo.mk (Keeps.refl _ _) ?_
  refine tr_solo (by simp only [List.getElem?_toArray, List.getElem?_cons_succ, List.getElem?_cons_zero]; exact rfl) ?_
  go_wp2_with fail
  refine (text_any A c d l s _ HO1.out.rd hcap.1 (by rw [← HLN.out]; omega) (by omega)).mono ?_
  rintro e w2 ⟨A2, n2, c2, l2, hl2, rfl, hown2, hb2⟩
  have hB2 := HB1.out.up hb2
  have f18 := hB2.free 18
  have p18 := hB2.cell 18 _ (wr_at18 hx)
  have HB2 := Lib.hid hB2
  have HO2 := Lib.hid hown2
  have HK2 := Lib.hid hb2
  have HL1 := Lib.hid HB1.out.lt
  have hq2 := HQ1.out.up hb2
  have HQ2 := Lib.hid hq2
  clear hq2
  clear hB2 hown2
  go_wp2
  refine Solo.up hb2 ?_
  clear hb2
  repeat (refine tr_take (by simp only [List.getElem?_toArray, List.getElem?_cons_succ, List.getElem?_cons_zero]; exact rfl) ?_; go_big_quiet_step (fail); refine wpQuiet_nil ?_)
  refine tr_solo (by simp only [List.getElem?_toArray, List.getElem?_cons_succ, List.getElem?_cons_zero]; exact rfl) ?_
  go_wp2
  refine Solo.mk ((Keeps.refl (Is g) _).setCell (p := ⟨g, 18, none⟩) (.inl rfl) _) ?_
  refine tr_end ?_
  have hw3 := Wr.laid HB2.out (HO2.out.lower (Nat.succ_le_of_lt HL1.out)) hx
  have hk3 : Keeps (Is g) w (w2.setCell ⟨g, 18, none⟩ (.slice A2 n2 c2)) := (Keeps.refl (Is g) w).drew.trans ((Keeps.of_below HK2.out).trans ((Keeps.refl (Is g) _).setCell (p := ⟨g, 18, none⟩) (.inl rfl) _))
  have hq3 := HQ2.out.keeps ((Keeps.refl (Is g) _).setCell (p := ⟨g, 18, none⟩) (.inl rfl) (.slice A2 n2 c2)) (fun e => by have e' : q = g := e; omega)
  have f0 := hq3.free j
  have p0 := hq3.cell j _ hv
  have HW3 := Lib.hid hw3
  have HK3 := Lib.hid hk3
  have HQ3 := Lib.hid hq3
  clear hw3 hk3 hq3
  generalize w2.setCell ⟨g, 18, none⟩ (.slice A2 n2 c2) = w3 at HW3 HK3 HQ3 f0 p0 ⊢
  clear f18 p18 hb hp hp'
  go_wp2
  go_end0
  refine ⟨rfl, l2, ok, Lib.hid (by rw [hl2.out, HTX.out, List.append_assoc]), Lib.hid HOK.out.symm, ?_, HQ3.out.set j _, (HK3.out.mono (fun k _ hk => .inl hk)).setCell (p := ⟨q, j, none⟩) (.inl (.inr rfl)) _⟩
  exact HW3.out.far HQ3.out ht (by omega) ((Keeps.refl (Is q) _).setCell (p := ⟨q, j, none⟩) (.inl rfl) _)

end Go.Proofs.Ytoplkglnjgllnaa
