/-
  Layer 11: Page.
-/
import Derived.Test.YtoaemkbdfinaoaaDirI
namespace Go.Proofs.Ytoaemkbdfinaoaa
open Go.RowKit Go.Shelf
set_option linter.unusedVariables false
set_option linter.unusedSimpArgs false
attribute [local go_sem] Oper.semAt_some

/-- Some entries; whether none is behind them; the error. -/
def pageE (es : List EntI) (from_ most : Int) : List EntI × Bool × Int :=
  if from_ < 0 ∨ (es.length : Int) < from_ then ([], false, 20) else ((es.drop from_.toNat).take most.toNat, decide (from_ + ((es.drop from_.toNat).take most.toNat).length = es.length), 0)
theorem page_step (pre : List EntI) (x : EntI) (f m : Nat) : ((pre ++ [x]).drop f).take m = if f ≤ pre.length ∧ ((pre.drop f).take m).length < m then (pre.drop f).take m ++ [x] else (pre.drop f).take m := by
  by_cases h : f ≤ pre.length
  · rw [List.drop_append_of_le_length h]
    by_cases h2 : ((pre.drop f).take m).length < m
    · rw [if_pos ⟨h, h2⟩]
      rw [List.length_take] at h2
      have h3 : (pre.drop f).length < m := by omega
      rw [List.take_of_length_le (show (pre.drop f ++ [x]).length ≤ m by rw [List.length_append]; exact h3), List.take_of_length_le (Nat.le_of_lt h3)]
    · rw [if_neg (fun e => h2 e.2)]
      rw [List.length_take] at h2
      rw [List.take_append_of_le_length (by omega)]
  · rw [if_neg (fun e => h e.1), List.drop_eq_nil_of_le (by simp; omega), List.drop_eq_nil_of_le (by omega)]
theorem kp_set {G0 : Nat → Prop} {Bo b : Nat} (W : World) (v : Value) (hg : G0 b) (hne : b ≠ Bo) : KpB G0 Bo W (W.setCell ⟨b, 0, none⟩ v) := by
  have hks : Keeps (Is b) W (W.setCell ⟨b, 0, none⟩ v) := (Keeps.refl (Is b) _).setCell (p := ⟨b, 0, none⟩) (.inl rfl) _
  refine ⟨hks.size, fun k cs t fz hk hg0 _ => hks.block k (Array.getElem?_eq_some_iff.1 hk).1 (fun e => hg0 (by have e' : k = b := e; rw [e']; exact hg)), .inl ?_⟩
  unfold outB World.cell?
  by_cases h : Bo < W.heap.size
  · rw [hks.block Bo h (fun e => hne (by have e' : Bo = b := e; exact e'.symm))]
  · have e1 : W.heap[Bo]? = none := Array.getElem?_eq_none (by omega)
    have e2 : (W.setCell ⟨b, 0, none⟩ v).heap[Bo]? = none := Array.getElem?_eq_none (by rw [show (W.setCell ⟨b, 0, none⟩ v).heap.size = W.heap.size by simp [World.setCell]]; omega)
    rw [e1, e2]
theorem KpB.mono {G G0 : Nat → Prop} {Bo : Nat} {X Y : World} (h : KpB G Bo X Y) (hg : ∀ k, G k → G0 k) : KpB G0 Bo X Y := ⟨h.size, fun k cs t fz hk h0 ho => h.same k cs t fz hk (fun e => h0 (hg k e)) ho, h.out⟩

def PageI (w : World) (f m : Nat) (from_ most : Int) (pre : List EntI) (W : World) : Prop :=
  ∃ (A' : Option Addr) (n' c' : Nat), Blk W (w.heap.size + 2) 25 [.slice A' n' c'] ∧ OwR W w.heap.size 42 3 A' n' c' (((pre.drop f).take m).map eiC) ∧ Blk W (w.heap.size + 2 + 1) 3 [.int .i64 (pre.length : Nat)] ∧ Blk W w.heap.size 3 [.int .i64 from_] ∧ Blk W (w.heap.size + 1) 3 [.int .i64 most] ∧ Below w.heap.size w W
theorem pageI_own (w : World) (f m : Nat) (from_ most : Int) (B : Nat) (hB : w.heap.size ≤ B) : OwnFrom B (PageI w f m from_ most) := by
  rintro pre X Y row ⟨A', n', c', h1, h2, h4, h5, h6, h3⟩ hg hr
  exact ⟨A', n', c', h1.kept hg hr, h2.kept hg hr, h4.kept hg hr, h5.kept hg hr, h6.kept hg hr, h3.grown hg h3.size (fun k e => Nat.le_trans hB (hr k e).1)⟩

theorem blk_after {W w3 : World} {base n' c' q k : Nat} {t e : TypeId} {A' : Option Addr} {rs : List (List Value)} {cs : List Value} (hO : Blk W q t cs) (hR : OwR W base e k A' n' c' rs) (ht : t ≠ e) (o : Obj) (hg : (W.alloc o).grownBy w3 (A'.map (·.block))) : Blk w3 q t cs := by
  have h1 : Blk (W.alloc o) q t cs := hO.up ((Below.refl _ _).alloc (Nat.le_refl _) _)
  exact (hg.block q h1.lt (fun e => hR.ne hO ht e.symm)).trans h1
theorem own_after {W w3 W4 : World} {base n' c' Bo k n3 c3 : Nat} {t e : TypeId} {A' A3 : Option Addr} {rs rs3 : List (List Value)} (hO : Blk W Bo t [.slice A' n' c']) (hR : OwR W base e k A' n' c' rs) (ht : t ≠ e) (o : Obj)
    (hf : A3 = A' ∨ ∃ b, A3 = some ⟨b, 0, none⟩ ∧ (W.alloc o).heap.size ≤ b) (h3 : OwR w3 base e k A3 n3 c3 rs3) (hk : Keeps (Is Bo) w3 W4) : OwR W4 base e k A3 n3 c3 rs3 :=
  Own.keepGI h3 hk (fun b hb e => by
    have e' : b = Bo := e
    subst e'
    rcases hf with hA | ⟨b', hA, hb'⟩
    · subst hA; exact hR.ne hO ht hb
    · subst hA
      have : b' = b := by simpa [InBlk] using hb
      have := hO.lt
      simp at hb'
      omega)
theorem below_app2 {w W w3 W4 : World} {n' c' k Bo : Nat} {e : TypeId} {A' : Option Addr} {rs : List (List Value)} (hBo : w.heap.size ≤ Bo) (hBl : Bo < W.heap.size) (hB : Below w.heap.size w W) (hR : OwR W w.heap.size e k A' n' c' rs) (o : Obj) (hg : (W.alloc o).grownBy w3 (A'.map (·.block))) (hk : Keeps (Is Bo) w3 W4) : Below w.heap.size w W4 := by
  have h1 : Below w.heap.size w (W.alloc o) := hB.alloc hB.size _
  have h2 : Below w.heap.size (W.alloc o) w3 := ⟨hg.os, hg.tape, hg.output, hg.size, fun j hj => hg.block j (by have := h1.size; omega) (fun e => by have := (hR.isCells j e.symm).1; omega)⟩
  have h3 : W.heap.size ≤ w3.heap.size := by have := hg.size; simp at this; omega
  exact h1.trans (h2.trans (hk.is hBo (by omega)))
theorem page_end (w : World) (f m : Nat) (from_ most : Int) (pre : List EntI) (x : EntI) (W W4 : World) (hko : KeepsFrom (w.heap.size + 5) W W4) (hkp : KpB (fun k => k = w.heap.size + 2 ∨ k = w.heap.size + 2 + 1) (w.heap.size + 2) W W4)
    (A' : Option Addr) (n' c' : Nat) (hL : Blk W4 (w.heap.size + 2) 25 [.slice A' n' c']) (hR : OwR W4 w.heap.size 42 3 A' n' c' ((((pre ++ [x]).drop f).take m).map eiC)) (hA : Blk W4 (w.heap.size + 2 + 1) 3 [.int .i64 (pre.length : Nat)]) (hF : Blk W4 w.heap.size 3 [.int .i64 from_]) (hM : Blk W4 (w.heap.size + 1) 3 [.int .i64 most]) (hB : Below w.heap.size w W4) :
    KeepsFrom (w.heap.size + 5) W (W4.setCell ⟨w.heap.size + 2 + 1, 0, none⟩ (.int .i64 ((pre.length : Int) + 1))) ∧ KpB (fun k => k = w.heap.size + 2 ∨ k = w.heap.size + 2 + 1) (w.heap.size + 2) W (W4.setCell ⟨w.heap.size + 2 + 1, 0, none⟩ (.int .i64 ((pre.length : Int) + 1))) ∧ PageI w f m from_ most (pre ++ [x]) (W4.setCell ⟨w.heap.size + 2 + 1, 0, none⟩ (.int .i64 ((pre.length : Int) + 1))) := by
  have hks : Keeps (Is (w.heap.size + 2 + 1)) W4 (W4.setCell ⟨w.heap.size + 2 + 1, 0, none⟩ (.int .i64 ((pre.length : Int) + 1))) := (Keeps.refl (Is _) _).setCell (p := ⟨_, 0, none⟩) (.inl rfl) _
  refine ⟨hko.trans ((KeepsOthers.setCell _ _ _).from _), hkp.trans (kp_set W4 _ (.inr rfl) (by omega)), A', n', c', hL.keeps hks (fun e => by have e' : w.heap.size + 2 = w.heap.size + 2 + 1 := e; omega), ?_, ?_, hF.keeps hks (fun e => by have e' : w.heap.size = w.heap.size + 2 + 1 := e; omega), hM.keeps hks (fun e => by have e' : w.heap.size + 1 = w.heap.size + 2 + 1 := e; omega), hB.trans (hks.is (by omega) (Nat.le_of_lt hA.lt))⟩
  · exact Own.keepGI hR hks (fun b hb e => hR.ne hA (by decide) (by have e' : b = w.heap.size + 2 + 1 := e; rw [← e']; exact hb))
  · have := hA.set 0 (.int .i64 ((pre.length : Int) + 1))
    rw [show ((pre ++ [x]).length : Int) = (pre.length : Int) + 1 by simp]
    exact this
def PageAx (g : Nat) (w : World) (f nn : Nat) (most : Int) (x : EntI) (a' : Act) (W : World) : Prop := ∃ Bx, w.heap.size + 2 < Bx ∧ Blk W Bx 31 [.int .i64 x.2.1, .int .i64 x.2.2] ∧
  a' = { tmps := #[.pointer (some ⟨g, 0, none⟩), .int .i64 f, .int .i64 most, undef, .pointer (some ⟨w.heap.size, 0, none⟩), .pointer (some ⟨w.heap.size + 1, 0, none⟩), .slice none 0 0, .bool false, .int .i64 0, .pointer (some ⟨w.heap.size + 2, 0, none⟩), .pointer (some ⟨w.heap.size + 2 + 1, 0, none⟩), .string (st x.1), .pointer (some ⟨Bx, 0, none⟩), .int .i64 f, .bool false, .bool false, .int .i64 f, .pointer (some ⟨g, 0, none⟩), .int .i64 nn, .bool false, .bool false, .pointer (some ⟨g, 0, none⟩), .func (.func 34) #[] #[.pointer (some ⟨w.heap.size + 2 + 1 + 1, 0, none⟩)], .string (st x.1), .agg #[.int .i64 x.2.1, .int .i64 x.2.2], undef, undef, undef, undef, undef, undef, undef, undef, undef, undef, undef, undef, undef, undef, undef, undef, undef, undef, undef, undef, undef, undef, undef, undef, undef], defers := [] }
theorem pageAx_own (g : Nat) (w : World) (f nn : Nat) (most : Int) (B : Nat) : ∀ x a', OwnFrom B (fun (_ : Unit) W => PageAx g w f nn most x a' W) := by
  rintro x a' _ X Y row ⟨Bx, h1, h2, h3⟩ hg hr
  exact ⟨Bx, h1, h2.kept hg hr, h3⟩
def PagePost (es : List EntI) (from_ most : Int) (w : World) (e : Ending) (w' : World) : Prop :=
  ∃ (A' : Option Addr) (n' c' : Nat), e = .returned (.tuple #[.slice A' n' c', .bool (pageE es from_ most).2.1, .int .i64 (pageE es from_ most).2.2]) ∧ OwR w' w.heap.size 42 3 A' n' c' ((pageE es from_ most).1.map eiC) ∧ Below w.heap.size w w'
set_option maxRecDepth 100000 in
set_option maxHeartbeats 8000000 in
theorem page_any (g : Nat) (A : Option Addr) (nn c : Nat) (es : List EntI) (from_ most : Int) (w : World) (h : Dr w g A nn c es) (hnn : nn ≤ 1000) :
    Calls Try.prog 13 #[.pointer (some ⟨g, 0, none⟩), .int .i64 from_, .int .i64 most] w (PagePost es from_ most w) := by
  have HL := Lib.hid h.len
  obtain ⟨Wa, hWa⟩ : ∃ x, x = w.alloc (.cells #[.int .i64 from_] 3) := ⟨_, rfl⟩
  obtain ⟨W0, hW0⟩ : ∃ x, x = Wa.alloc (.cells #[.int .i64 most] 3) := ⟨_, rfl⟩
  have hba : Below w.heap.size w Wa := by rw [hWa]; exact (Below.refl _ _).alloc (Nat.le_refl _) _
  have hb0 : Below Wa.heap.size Wa W0 := by rw [hW0]; exact (Below.refl _ _).alloc (Nat.le_refl _) _
  have hsa : Wa.heap.size = w.heap.size + 1 := by rw [hWa]; simp
  have hs0 : W0.heap.size = w.heap.size + 2 := by rw [hW0]; simp; omega
  have hF0 : Blk W0 w.heap.size 3 [.int .i64 from_] := (show Blk Wa w.heap.size 3 [.int .i64 from_] by rw [hWa]; exact Blk.new w 3 [.int .i64 from_]).up hb0
  have hM0 : Blk W0 (w.heap.size + 1) 3 [.int .i64 most] := by rw [← hsa, hW0]; exact Blk.new Wa 3 [.int .i64 most]
  have H := Lib.hid h
  have H0 := Lib.hid ((h.up hba).up hb0)
  have HF0 := Lib.hid hF0
  have HM0 := Lib.hid hM0
  have HB0 := Lib.hid (Up.trans' hba hb0)
  have HWA := Lib.hid hWa
  have HW0 := Lib.hid hW0
  have hsa' : (w.alloc (.cells #[.int .i64 from_] 3)).heap.size = w.heap.size + 1 := by simp
  clear h hba hb0 hF0 hM0 hWa hW0
  refine (callsIn_wide (n := 5)).1 ?_
  refine callsIn_of_wp_marks Try.func13 rfl trivial ?_ rfl
  simp only [Try.ntmps13, List.size_toArray, List.length_cons, List.length_nil, Nat.reduceAdd, Nat.reduceSub, Array.replicate_succ, Array.replicate_zero, List.push_toArray, List.append_toArray, List.nil_append, List.cons_append]
  refine wpIn_wide.2 ?_
  go_upto_region 1 with fail
  rw [← HWA.out, ← HW0.out]
  clear HWA HW0 hsa'
  have k0 := cell_abv (G := NoG) (HF0.out.drew.cell 0 _ rfl) id
  by_cases hneg : from_ < 0
  · have HP := Lib.hid (show pageE es from_ most = ([], false, 20) from if_pos (.inl hneg))
    refine wp_region_plan NoG [(0, false), (1, false), (2, false), (3, false), (4, false), (5, true), (6, false), (7, false)] (by kernel_rfl) (by kernel_rfl) ?_
    repeat (refine plan_take (by simp only [List.getElem?_toArray, List.getElem?_cons_succ, List.getElem?_cons_zero]; exact rfl) ?_; go_big_quiet_step (fail); refine wpQuiet_nil ?_)
    refine plan_solo (by simp only [List.getElem?_toArray, List.getElem?_cons_succ, List.getElem?_cons_zero]; exact rfl) ?_
    go_wp2
    refine Solo.mk (Keeps.refl _ _) ?_
    repeat (refine plan_take (by simp only [List.getElem?_toArray, List.getElem?_cons_succ, List.getElem?_cons_zero]; exact rfl) ?_; go_big_quiet_step (fail); refine wpQuiet_nil ?_)
    refine plan_end ?_
    clear k0
    go_wp2
    refine ⟨_, results_tmp3 rfl _ _ _, none, 0, 0, by rw [HP.out]; rfl, by rw [HP.out]; exact OwR.nil _ _ _ _, HB0.out.drew⟩
  have c0d := H0.out.b.cell 0 _ rfl
  have hp0 : ¬ (from_ < 0) := hneg
  have PRE : ∀ (K : Prop), K → K := fun _ k => k
  by_cases hbig : (nn : Int) < from_
  · have HP := Lib.hid (show pageE es from_ most = ([], false, 20) from if_pos (.inr (by rw [HL.out]; exact hbig)))
    refine wp_region_plan NoG [(0, false), (1, false), (2, false), (3, false), (4, false), (5, true), (6, false), (7, false)] (by kernel_rfl) (by kernel_rfl) ?_
    repeat (refine plan_take (by simp only [List.getElem?_toArray, List.getElem?_cons_succ, List.getElem?_cons_zero]; exact rfl) ?_; go_big_quiet_step (fail); refine wpQuiet_nil ?_)
    refine plan_solo (by simp only [List.getElem?_toArray, List.getElem?_cons_succ, List.getElem?_cons_zero]; exact rfl) ?_
    go_wp2_with fail
    refine (len_any g A nn c es _ H0.out.drew).mono ?_
    rintro e w' ⟨rfl, rfl⟩
    go_wp2
    refine Solo.mk (Keeps.refl _ _) ?_
    repeat (refine plan_take (by simp only [List.getElem?_toArray, List.getElem?_cons_succ, List.getElem?_cons_zero]; exact rfl) ?_; go_big_quiet_step (fail); refine wpQuiet_nil ?_)
    refine plan_end ?_
    clear k0
    go_wp2
    refine ⟨_, results_tmp3 rfl _ _ _, none, 0, 0, by rw [HP.out]; rfl, by rw [HP.out]; exact OwR.nil _ _ _ _, HB0.out.drew⟩
  obtain ⟨f, rfl⟩ : ∃ f : Nat, from_ = f := ⟨from_.toNat, by omega⟩
  have HP := Lib.hid (show pageE es f most = ((es.drop f).take most.toNat, decide ((f : Int) + ((es.drop f).take most.toNat).length = es.length), 0) from by
    unfold pageE
    rw [if_neg (by rw [HL.out]; rintro (h | h); exact hneg h; exact hbig h), Int.toNat_natCast])
  obtain ⟨m, hm⟩ : ∃ m, m = most.toNat := ⟨_, rfl⟩
  have HM := Lib.hid hm
  refine wp_region_plan NoG [(0, false), (1, false), (2, false), (3, false), (4, false), (5, true), (6, false), (7, false)] (by kernel_rfl) (by kernel_rfl) ?_
  repeat (refine plan_take (by simp only [List.getElem?_toArray, List.getElem?_cons_succ, List.getElem?_cons_zero]; exact rfl) ?_; go_big_quiet_step (fail); refine wpQuiet_nil ?_)
  refine plan_solo (by simp only [List.getElem?_toArray, List.getElem?_cons_succ, List.getElem?_cons_zero]; exact rfl) ?_
  go_wp2_with fail
  refine (len_any g A nn c es _ H0.out.drew).mono ?_
  rintro e w' ⟨rfl, rfl⟩
  go_wp2
  refine Solo.mk (Keeps.refl _ _) ?_
  repeat (refine plan_take (by simp only [List.getElem?_toArray, List.getElem?_cons_succ, List.getElem?_cons_zero]; exact rfl) ?_; go_big_quiet_step (fail); refine wpQuiet_nil ?_)
  refine plan_end ?_
  clear k0 c0d hm PRE
  go_upto_region 5 with fail
  obtain ⟨W1, hW1⟩ : ∃ x, x = ((W0.alloc (.cells #[.slice none 0 0] 25)).alloc (.cells #[.int .i64 0] 3)).drew := ⟨_, rfl⟩
  have hs1 : W1.heap.size = w.heap.size + 2 + 1 + 1 := by rw [hW1]; simp [World.drew]; omega
  have hb1 : Below W0.heap.size W0 W1 := by rw [hW1]; exact (((Below.refl _ _).alloc (Nat.le_refl _) _).alloc (by simp) _).drew
  have hL1 : Blk W1 (w.heap.size + 2) 25 [.slice none 0 0] := by
    rw [hW1, ← hs0]
    exact ((Blk.new W0 25 [.slice none 0 0]).up ((Below.refl _ _).alloc (Nat.le_refl _) _)).drew
  have hA1 : Blk W1 (w.heap.size + 2 + 1) 3 [.int .i64 (0 : Nat)] := by
    rw [hW1]
    have := Blk.new (W0.alloc (.cells #[.slice none 0 0] 25)) 3 [.int .i64 (0 : Nat)]
    rw [show (W0.alloc (.cells #[.slice none 0 0] 25)).heap.size = w.heap.size + 2 + 1 by simp; omega] at this
    exact this.drew
  rw [← hW1]
  clear hW1
  go_wp2_with fail
  refine (All_any g _).mono ?_
  rintro e W2 ⟨rfl, hW2⟩
  have hb2 : Below W1.heap.size W1 W2 := by rw [hW2]; exact (Below.refl _ _).alloc (Nat.le_refl _) _
  have hD2 : Blk W2 (w.heap.size + 2 + 1 + 1) 23 [.pointer (some ⟨g, 0, none⟩)] := by rw [← hs1, hW2]; exact Blk.new W1 23 [.pointer (some ⟨g, 0, none⟩)]
  have hs2 : W2.heap.size = w.heap.size + 5 := by rw [hW2]; simp; omega
  have hL2 := hL1.up hb2
  have hA2 := hA1.up hb2
  have hF2 := (HF0.out.up hb1).up hb2
  have hM2 := (HM0.out.up hb1).up hb2
  have hB2 := Up.trans' (Up.trans' HB0.out hb1) hb2
  have H2 := Lib.hid ((H0.out.up hb1).up hb2)
  have hcD := hD2.cell 0 _ rfl
  have hoB : outB (w.heap.size + 2) W2 = none := by unfold outB; rw [hL2.cell 0 _ rfl]
  rw [hs1]
  clear hW2 hb1 hb2 hL1 hA1
  go_wp2_with fail
  refine (wpIn_wide (n := 5)).1 ?_
  refine wpIn_rangeFunc_ownH rfl (by omega) (gf := 34) (lb := #[.pointer (some ⟨w.heap.size + 2 + 1 + 1, 0, none⟩)]) rfl trivial (enters_of Try.func34 (by kernel_rfl) rfl)
    (all_stops 4 (by omega) g (w.heap.size + 2 + 1 + 1) (w.heap.size + 2) (fun k => k = w.heap.size + 2 ∨ k = w.heap.size + 2 + 1) A nn c es W2 H2.out hnn hcD (by omega) (fun k hk => by omega) (by omega) (fun b hb => by rw [hoB] at hb; cases hb))
    (fun h k => h.trans k) (kpB_put (by omega)) (Below.refl _ _) (fun _ => rfl)
    (fun pre W => PageI w f m f most pre W)
    (fun _ _ _ => False)
    (pageI_own w f m f most _ (by omega))
    (fun _ _ _ _ _ hs _ _ => hs)
    ⟨none, 0, 0, hL2, by rw [show (([] : List EntI).drop f).take m = [] by simp]; exact OwR.nil _ _ _ _, hA2, hF2, hM2, hB2⟩
    (fun x a' W => PageAx g w f nn most x a' W)
    (pageAx_own g w f nn most _)
    ?assign ?body ?done ?stop
  case assign =>
    rintro l pre x W K ⟨A', n', c', hL, hR, hA, hF, hM, hB⟩ hK
    dsimp only [encE]
    gi_wp2
    exact hK _ _ ((KeepsOthers.alloc _ _).from _) (kp_alloc W _ hL.lt) ⟨A', n', c', hL.up ((Below.refl _ _).alloc (Nat.le_refl _) _), hR.alloc _, hA.up ((Below.refl _ _).alloc (Nat.le_refl _) _), hF.up ((Below.refl _ _).alloc (Nat.le_refl _) _), hM.up ((Below.refl _ _).alloc (Nat.le_refl _) _), hB.alloc hB.size _⟩ ⟨W.heap.size, hL.lt, Blk.new W 31 [.int .i64 x.2.1, .int .i64 x.2.2], rfl⟩
  case body =>
    rintro l pre x a' W hl ⟨r, hr⟩ ⟨A', n', c', hL, hR, hA, hF, hM, hB⟩ ⟨Bx, hBx, hX, rfl⟩ hlt
    rw [hs2]
    have HN := Lib.hid (show ((pre.drop f).take m).length = n' by have := hR.len; simpa using this)
    have hpl : pre.length < 1000 := by have := HL.out; omega
    have hn1 : n' ≤ 1000 := by have := HN.out; rw [List.length_take, List.length_drop] at this; omega
    have a0 := hA.cell 0 _ rfl
    have af := hA.free 0
    have f0 := hF.cell 0 _ rfl
    have l0 := hL.cell 0 _ rfl
    have m0 := hM.cell 0 _ rfl
    have x0 := hX.cell 0 _ rfl
    have x1 := hX.cell 1 _ rfl
    have hwr : IntKind.i64.wrap ((pre.length : Int) + 1) = pre.length + 1 := IntWalk.i64_in _ (by omega)
    have HLL := Lib.hid hL
    have HR := Lib.hid hR
    have HA := Lib.hid hA
    have HF := Lib.hid hF
    have HMM := Lib.hid hM
    have HBW := Lib.hid hB
    by_cases hyes : f ≤ pre.length ∧ n' < m
    · obtain ⟨h1, h2⟩ := hyes
      have h2' : (n' : Int) < most := by have := HM.out; omega
      have HST := Lib.hid (show ((pre ++ [x]).drop f).take m = (pre.drop f).take m ++ [x] by rw [page_step, if_pos ⟨h1, by rw [HN.out]; exact h2⟩])
      have h1' : (f : Int) ≤ pre.length := by omega
      have Hsrc := Lib.hid (Src.oneR (P := Try.prog) W 25 42 Try.underlying25 (eiC x) rfl (eiC_one x) #[.string (st x.1), .int .i64 x.2.1, .int .i64 x.2.2] rfl 42)
      have hsz : w.heap.size ≤ (W.alloc (.cells #[.string (st x.1), .int .i64 x.2.1, .int .i64 x.2.2] 42)).heap.size := by have := hB.size; simp; omega
      clear hL hR hA hF hM hX hB hr
      gi_wp2_with (gi_at_builtin; refine wpListIn_appendE entsElem rfl (.tmp 34) (.tmp 38) 25 rfl w.heap.size A' n' c' ((pre.drop f).take m) rfl (HR.out.alloc _) _ rfl x Hsrc.out (by omega) (by omega) hsz ?_; intro A3 n3 c3 w3 hn3 hown3 hg3 hf3; have hbo := box_after HLL.out HR.out (by decide) _ hg3; have y0 := hbo.cell 0 _ rfl; have yf := hbo.free 0; have hba := blk_after HA.out HR.out (by decide) _ hg3; have z0 := hba.cell 0 _ rfl; have zf := hba.free 0; have HG3 := Lib.hid hg3; have HF3 := Lib.hid hf3; have HW3 := Lib.hid hown3; clear hbo hba hg3 hf3 hown3)
      obtain ⟨a1, a2, a3, a4⟩ := append_kp HLL.out HR.out (by decide) _ HG3.out HF3.out n3 c3
      have hko := own_after HLL.out HR.out (by decide) _ HF3.out HW3.out a4
      have e1 : ¬ Is (w.heap.size + 2) (w.heap.size + 2 + 1) := fun e => by have e' : w.heap.size + 2 + 1 = w.heap.size + 2 := e; omega
      have e2 : ¬ Is (w.heap.size + 2) w.heap.size := fun e => by have e' : w.heap.size = w.heap.size + 2 := e; omega
      have e3 : ¬ Is (w.heap.size + 2) (w.heap.size + 1) := fun e => by have e' : w.heap.size + 1 = w.heap.size + 2 := e; omega
      exact page_end w f m f most pre x W _ (a1.from _) (a2.mono (fun k hk => .inl hk)) A3 n3 c3 a3 (by rw [HST.out]; exact hko) ((blk_after HA.out HR.out (by decide) _ HG3.out).keeps a4 e1) ((blk_after HF.out HR.out (by decide) _ HG3.out).keeps a4 e2) ((blk_after HMM.out HR.out (by decide) _ HG3.out).keeps a4 e3) (below_app2 (by omega) HLL.out.lt HBW.out HR.out _ HG3.out a4)
    · have HST := Lib.hid (show ((pre ++ [x]).drop f).take m = (pre.drop f).take m by rw [page_step, if_neg (fun e => hyes ⟨e.1, by rw [← HN.out]; exact e.2⟩)])
      have hno : ¬ (f ≤ pre.length) ∨ (f ≤ pre.length ∧ ¬ (n' : Int) < most) := by
        by_cases h1 : f ≤ pre.length
        · exact .inr ⟨h1, fun h2 => hyes ⟨h1, by have := HM.out; omega⟩⟩
        · exact .inl h1
      clear hL hR hA hF hM hX hB hr hyes
      rcases hno with h1 | ⟨h1, h2⟩
      all_goals
        gi_wp2
        exact page_end w f m f most pre x W W ⟨Nat.le_refl _, fun _ _ _ h _ => h⟩ ⟨Nat.le_refl _, fun _ _ _ _ _ _ _ => rfl, .inl rfl⟩ A' n' c' HLL.out (by rw [HST.out]; exact HR.out) HA.out HF.out HMM.out HBW.out
  case done =>
    rintro D xs W hD rfl ⟨A', n', c', hL, hR, hA, hF, hM, hB⟩ hK
    have HN := Lib.hid (show ((xs.drop f).take m).length = n' by have := hR.len; simpa using this)
    have hn1 : n' ≤ 1000 := by have h1 := HN.out; have h2 := HL.out; rw [List.length_take, List.length_drop] at h1; omega
    have hf1 : f ≤ nn := by omega
    have k9 := cell_abv (G := NoG) (hL.drew.cell 0 _ rfl) id
    have k4 := cell_abv (G := NoG) (hF.drew.cell 0 _ rfl) id
    have hwr : IntKind.i64.wrap ((f : Int) + n') = f + n' := IntWalk.i64_in _ (by omega)
    have HR := Lib.hid hR
    have HBW := Lib.hid hB
    have HK := Lib.hid hK
    have HDr := Lib.hid (show Dr W.drew g A nn c xs from (H.out.up hB).drew)
    obtain ⟨b, hb⟩ : ∃ b : Bool, b = decide ((f : Int) + n' = nn) := ⟨_, rfl⟩
    have HBB := Lib.hid hb
    have hbq : ((f : Int) + n' == nn) = b := by rw [hb]; by_cases e : (f : Int) + n' = nn <;> simp [e]
    have HBQ := Lib.hid hbq
    have HPE := Lib.hid (show pageE xs f most = ((xs.drop f).take m, b, 0) by rw [HP.out, ← HM.out, HN.out, hb, HL.out])
    clear hL hR hA hF hM hB hK hb hbq
    go_wp2
    refine wp_region_plan NoG [(0, false), (1, false), (2, false), (3, false), (4, false), (5, false), (6, true), (7, false), (8, false), (9, false), (10, false)] (by kernel_rfl) (by kernel_rfl) ?_
    repeat (refine plan_take (by simp only [List.getElem?_toArray, List.getElem?_cons_succ, List.getElem?_cons_zero]; exact rfl) ?_; go_big_quiet_step (fail); refine wpQuiet_nil ?_)
    refine plan_solo (by simp only [List.getElem?_toArray, List.getElem?_cons_succ, List.getElem?_cons_zero]; exact rfl) ?_
    clear k9 k4
    go_wp2_with fail
    refine (len_any g A nn c xs _ HDr.out).mono ?_
    rintro e w' ⟨rfl, rfl⟩
    go_wp2
    refine Solo.mk (Keeps.refl _ _) ?_
    repeat (refine plan_take (by simp only [List.getElem?_toArray, List.getElem?_cons_succ, List.getElem?_cons_zero]; exact rfl) ?_; go_big_quiet_step (fail); refine wpQuiet_nil ?_)
    refine plan_end ?_
    go_wp2
    refine ⟨by simp, .inl ⟨_, _, rfl, run_takeDeferred HK.out, ?_⟩⟩
    refine ⟨_, results_tmp3 rfl _ _ _, A', n', c', by rw [HPE.out, ← HBQ.out]; rfl, ?_, ?_⟩
    · rw [HPE.out]
      exact OwR.kept (B := 0) HR.out.drew (grownBy_putObj' W.drew D _) (fun r e => by cases e; exact ⟨Nat.zero_le _, _, HK.out, rfl⟩)
    · exact HBW.out.drew.trans (belowK_b (w := w) (Nat.le_refl _) W.drew D _ _ (by omega) HK.out rfl rfl)
  case stop =>
    rintro D c pre W hD _ h _
    exact h.elim
end Go.Proofs.Ytoaemkbdfinaoaa
