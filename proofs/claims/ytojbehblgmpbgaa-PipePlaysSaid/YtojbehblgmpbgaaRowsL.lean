/-
  Slices of slices of bytes: append, SameBytes.
-/
import Derived.Test.YtojbehblgmpbgaaVals
import Derived.Test.YtojbehblgmpbgaaRowInW
import Derived.Test.YtojbehblgmpbgaaLawB
import Derived.Test.YtojbehblgmpbgaaPlan
import Derived.Test.YtojbehblgmpbgaaBlk
namespace Go.Proofs.Ytojbehblgmpbgaa
open Go.RowKit
set_option linter.unusedVariables false

theorem rowsElem : Elem Try.prog 37 22 (.slice none 0 0) 1 24 := elem_of Try.underlying37 (by kernel_rfl) rfl (by omega)

/-- '.slice A n c', a slice of slices of bytes, owns its row, from block base on; its parts read as ls, and lie in other blocks, from block lo on. -/
def OwBL (w : World) (base lo : Nat) (A : Option Addr) (n c : Nat) (ls : List (List UInt8)) : Prop :=
  ∃ vs : List Value, OwV w base 22 A n c vs ∧ vs.length = ls.length ∧ ∀ (i : Nat) (v : Value) (l : List UInt8), vs[i]? = some v → ls[i]? = some l →
    ∃ Ai ni ci, v = .slice Ai ni ci ∧ RdB w w.heap.size Ai ni l ∧ ni ≤ ci ∧ ci ≤ maxLen ∧ (0 < ni → ∀ a b, Ai = some a → A = some b → a.block ≠ b.block) ∧ (0 < ni → ∀ a, Ai = some a → lo ≤ a.block)
abbrev OwBB (w : World) (base : Nat) (A : Option Addr) (n c : Nat) (ls : List (List UInt8)) : Prop := OwBL w base 0 A n c ls

section
variable {w w' : World} {base lo n c : Nat} {A : Option Addr} {ls : List (List UInt8)}
theorem OwBL.nil (w : World) (base lo : Nat) : OwBL w base lo none 0 0 [] := ⟨[], OwV.nil _ _ _, rfl, fun i v l h => by simp at h⟩
theorem OwBL.up (h : OwBL w base lo A n c ls) (k : Below w.heap.size w w') : OwBL w' base lo A n c ls := by
  obtain ⟨vs, h1, h2, h3⟩ := h
  refine ⟨vs, h1.up k, h2, fun i v l hv hl => ?_⟩
  obtain ⟨Ai, ni, ci, e, hr, hc⟩ := h3 i v l hv hl
  exact ⟨Ai, ni, ci, e, hr.up k, hc⟩
theorem OwBL.lower {base' : Nat} (h : OwBL w base lo A n c ls) (hb : base' ≤ base) : OwBL w base' lo A n c ls := by
  obtain ⟨vs, h1, h2, h3⟩ := h
  exact ⟨vs, h1.lower hb, h2, h3⟩
theorem OwBL.len (h : OwBL w base lo A n c ls) : ls.length = n := by obtain ⟨vs, h1, h2, _⟩ := h; rw [← h2]; exact h1.len
theorem OwBL.cap (h : OwBL w base lo A n c ls) : n ≤ c ∧ c ≤ maxLen := by obtain ⟨vs, h1, _⟩ := h; exact h1.cap
theorem OwBL.lt (h : OwBL w base lo A n c ls) : ∀ b, A = some b → b.block < w.heap.size := by
  obtain ⟨vs, h1, _⟩ := h
  intro b hb
  subst hb
  exact (Own.lt h1 b.block rfl).2
theorem OwBL.rd (h : OwBL w base lo A n c ls) : RdBB w w.heap.size A n ls := by
  refine ⟨h.len, fun h0 => ?_⟩
  obtain ⟨vs, h1, h2, h3⟩ := h
  obtain ⟨b, off, u, hA, hb, _⟩ := h1.rd.at_ h0
  refine ⟨b, off, hA, hb, fun i l hl => ?_⟩
  have hi : i < n := by
    have := (List.getElem?_eq_some_iff.1 hl).1
    have := h1.len
    omega
  obtain ⟨b', off', u', hA', _, hu', hc'⟩ := h1.rd.at_ hi
  rw [hA] at hA'
  injection hA' with e
  injection e with e1 e2
  subst e1 e2
  obtain ⟨Ai, ni, ci, e, hr, hc1, hc2, _⟩ := h3 i u' l hu' hl
  subst e
  exact ⟨Ai, ni, ci, hc', hr, hc1, hc2⟩
end

theorem RdB.through {w w' : World} {o : Obj} {A Ai : Option Addr} {ni : Nat} {l : List UInt8} (h : RdB w w.heap.size Ai ni l) (hne : 0 < ni → ∀ a b, Ai = some a → A = some b → a.block ≠ b.block) (hg : (w.alloc o).grownBy w' (A.map (·.block))) : RdB w' w'.heap.size Ai ni l := by
  refine ⟨h.1, fun hn => ?_⟩
  obtain ⟨ad, e, hb, hc⟩ := h.2 hn
  have hs := hg.size
  have hs2 : (w.alloc o).heap.size = w.heap.size + 1 := by simp
  refine ⟨ad, e, by omega, fun j u hu => ?_⟩
  have e1 : w'.heap[(ad.add j).block]? = w.heap[(ad.add j).block]? := by
    rw [block_of_add]
    rw [hg.block ad.block (by omega) (fun e2 => by
      cases hA : A with
      | none => rw [hA] at e2; cases e2
      | some b =>
        rw [hA] at e2
        exact hne hn ad b e hA (Option.some.inj e2))]
    exact Below.heap_alloc w o ad.block hb
  exact (World.cell?_of_block e1).trans (hc j u hu)

/-- append of one slice of bytes. -/
theorem wpList_appendBB {P : Program} {w : World} {ops : Array Oper} {rest : List Oper} {o : Oper} {a : Act} {Q : Exit → Act → World → Prop} {t : TypeId} (el : Elem P t 22 (.slice none 0 0) 1 24)
    (hgd : o.guard = none) (s x : Operand) (ho : o.op = .call { callee := .builtin .append, args := #[s, x], argTypes := #[t, t] })
    (base lo : Nat) (A0 : Option Addr) (n0 c0 : Nat) (ls : List (List UInt8)) (hs : a.eval s = .slice A0 n0 c0) (hown : OwBL w base lo A0 n0 c0 ls)
    (A1 : Option Addr) (n1 c1 : Nat) (l1 : List UInt8) (h1 : RdB w w.heap.size A1 n1 l1) (hc1 : n1 ≤ c1) (hc2 : c1 ≤ maxLen) (hne : 0 < n1 → ∀ a b, A1 = some a → A0 = some b → a.block ≠ b.block) (hlo : 0 < n1 → ∀ a, A1 = some a → lo ≤ a.block)
    (hx : a.eval x = .slice (some ⟨w.heap.size, 0, none⟩) 1 1) (hn : n0 + 1 ≤ 1048576) (hbase : base ≤ w.heap.size)
    (k : ∀ (A : Option Addr) (n c : Nat) (ls' : List (List UInt8)) (w' : World), Hid (ls' = ls ++ [l1]) → Hid (n = n0 + 1) → OwBL w' base lo A n c ls' → Below base w w' → wpList P ops Q rest (a.put o.dst (.slice A n c)) w') :
    wpList P ops Q (o :: rest) a (w.alloc (.cells #[.slice A1 n1 c1] 22)) := by
  have hlt := hown.lt
  obtain ⟨vs, hv, hl, hall⟩ := hown
  refine wpList_append_mine el hgd s x t ho base (.slice A0 n0 c0) n0 vs hs (hv.alloc _) _ hx 1 [.slice A1 n1 c1] (Src.oneV w t 22 el.ht _ rfl _) (by omega) (by omega) (by simp; omega) ?_
  intro A c w' ho' hg hblk
  have hrb : (Value.slice A0 n0 c0).ownBlock = A0.map (·.block) := by cases A0 <;> rfl
  have hra : (Value.slice A (n0 + 1) c).ownBlock = A.map (·.block) := by cases A <;> rfl
  rw [hrb] at hg hblk
  rw [hra] at hblk
  have hs2 : (w.alloc (.cells #[.slice A1 n1 c1] 22)).heap.size = w.heap.size + 1 := by simp
  have apart : ∀ {Ai : Option Addr} {ni : Nat} {l : List UInt8}, RdB w w.heap.size Ai ni l → (0 < ni → ∀ a b, Ai = some a → A0 = some b → a.block ≠ b.block) → (0 < ni → ∀ a b, Ai = some a → A = some b → a.block ≠ b.block) := by
    intro Ai ni l hr hd h0 a b ha hb
    obtain ⟨ad, e, hlt', _⟩ := hr.2 h0
    rw [ha] at e
    injection e with e
    subst e
    rw [hb] at hblk
    rcases hblk with h | h
    · cases hA0 : A0 with
      | none => rw [hA0] at h; cases h
      | some b0 =>
        rw [hA0] at h
        have : b.block = b0.block := Option.some.inj h
        rw [this]
        exact hd h0 a b0 ha hA0
    · have : b.block = w.heap.size + 1 := by rw [← hs2]; exact Option.some.inj h
      omega
  refine k A (n0 + 1) c (ls ++ [l1]) w' rfl rfl ⟨vs ++ [Value.slice A1 n1 c1], ho', by simp [hl], ?_⟩ ?_
  · intro i v l hvi hli
    rcases Nat.lt_or_ge i vs.length with hi | hi
    · rw [List.getElem?_append_left hi] at hvi
      rw [List.getElem?_append_left (by omega)] at hli
      obtain ⟨Ai, ni, ci, e, hr, h3, h4, h5, h6⟩ := hall i v l hvi hli
      exact ⟨Ai, ni, ci, e, hr.through h5 hg, h3, h4, apart hr h5, h6⟩
    · rw [List.getElem?_append_right hi] at hvi
      rw [List.getElem?_append_right (by omega)] at hli
      have hi0 : i - vs.length = 0 := by
        rcases Nat.eq_zero_or_pos (i - vs.length) with h | h
        · exact h
        · rw [List.getElem?_eq_none (by simp; omega)] at hvi; cases hvi
      have hi1 : i - ls.length = 0 := by omega
      rw [hi0] at hvi
      rw [hi1] at hli
      simp at hvi hli
      subst hvi hli
      exact ⟨A1, n1, c1, rfl, h1.through hne hg, hc1, hc2, apart h1 hne, hlo⟩
  · refine ⟨hg.os, hg.tape, hg.output, Nat.le_trans (by simp) hg.size, fun q hq => ?_⟩
    rw [hg.block q (by omega) (fun e => by
      cases hA0 : A0 with
      | none => rw [hA0] at e; cases e
      | some b0 =>
        rw [hA0] at e
        have h6 := (Own.lt hv b0.block (by rw [hA0]; rfl)).1
        have : b0.block = q := (Option.some.inj e).symm
        omega)]
    exact Below.heap_alloc w _ q (by omega)

def SbRel (w : World) (n : Nat) (i : Value) (wr : World) : Prop := ∃ j : Nat, j ≤ n ∧ i = .int .i64 j ∧ Below w.heap.size w wr

theorem RdBB.more {w : World} {B B' n : Nat} {A : Option Addr} {ls : List (List UInt8)} (h : RdBB w B A n ls) (hB : B ≤ B') : RdBB w B' A n ls := by
  refine ⟨h.1, fun hn => ?_⟩
  obtain ⟨b, off, hA, hb, hc⟩ := h.2 hn
  refine ⟨b, off, hA, by omega, fun i l hl => ?_⟩
  obtain ⟨Ai, ni, ci, h1, h2, h3⟩ := hc i l hl
  exact ⟨Ai, ni, ci, h1, h2.more hB, h3⟩

theorem sameBytes_eq (A : Option Addr) (n c : Nat) (A' : Option Addr) (n' c' : Nat) (ls : List (List UInt8)) (w : World) (h : RdBB w w.heap.size A n ls) (h' : RdBB w w.heap.size A' n' ls) (hn : n ≤ 1048576) :
    Calls Try.prog 29 #[.slice A n c, .slice A' n' c'] w fun e w' => e = .returned (.bool true) ∧ Below w.heap.size w w' := by
  obtain rfl : n = n' := h.1.symm.trans h'.1
  have H := Lib.hid h
  have H' := Lib.hid h'
  clear h h'
  go_enter Try.func29, Try.ntmps29
  go_wp2
  go_loopw [5] (fun i wr => SbRel w n i wr) (fun i _ => n - (intOf i).toNat)
  case atStart => exact ⟨0, by omega, rfl, Below.refl _ _⟩
  case round =>
    obtain ⟨j, hj, rfl, hbw⟩ := hrel
    by_cases hlt : j < n
    · obtain ⟨b, off, l, Ai, ni, ci, hA, hb, hl, hc, hr, _⟩ := H.out.at_ hlt
      obtain ⟨b', off', l', Ai', ni', ci', hA', hb', hl', hc', hr', _⟩ := H'.out.at_ hlt
      obtain rfl : l = l' := Option.some.inj (hl.symm.trans hl')
      subst hA hA'
      have kc : ∀ p : Abv NoG wr.drew, p.val.cell? ⟨b, off + j, none⟩ = some (.slice Ai ni ci) := fun p => cell_later ((below_of_drew p.below)) (cell_later hbw hc)
      have kc' : ∀ p : Abv NoG wr.drew, p.val.cell? ⟨b', off' + j, none⟩ = some (.slice Ai' ni' ci') := fun p => cell_later ((below_of_drew p.below)) (cell_later hbw hc')
      have ks := str_abv (w := wr.drew) (c := ci) (hr.up hbw.drew)
      have ks' := str_abv (w := wr.drew) (c := ci') (hr'.up hbw.drew)
      have hj0 : (0 : Int) ≤ j := by omega
      have hjn : (j : Int) < n := by omega
      clear hc hc' hl hl' hr hr'
      go_wp2
      refine wp_region_plan NoG [(0, false), (1, false), (2, false), (3, false), (4, false), (5, false), (6, false), (7, false), (8, false), (9, false), (10, false)] (by kernel_rfl) (by kernel_rfl) ?_
      repeat (refine plan_take (by simp only [List.getElem?_toArray, List.getElem?_cons_succ, List.getElem?_cons_zero]; exact rfl) ?_; go_big_quiet_step (fail); refine wpQuiet_nil ?_)
      refine plan_end ?_
      clear kc kc' ks ks'
      go_wp2
      go_roundw
      case rel => exact ⟨j + 1, by omega, by go_num, hbw.drew⟩
      case measure => simp [intOf]; omega
    · obtain rfl : j = n := by omega
      go_wp2
      go_ret
      exact ⟨rfl, hbw⟩

theorem OwBL.keeps {w w' : World} {G : Nat → Prop} {base lo n c : Nat} {A : Option Addr} {ls : List (List UInt8)} (h : OwBL w base lo A n c ls) (k : Keeps G w w') (hG : ∀ k, lo ≤ k → ¬ G k) (hb : lo ≤ base) : OwBL w' base lo A n c ls := by
  obtain ⟨vs, h1, h2, h3⟩ := h
  refine ⟨vs, Own.keeps h1 k (fun i hi => hG i (by omega)), h2, fun i v l hv hl => ?_⟩
  obtain ⟨Ai, ni, ci, e, hr, hc1, hc2, hd, hlo⟩ := h3 i v l hv hl
  refine ⟨Ai, ni, ci, e, ⟨hr.1, fun hn => ?_⟩, hc1, hc2, hd, hlo⟩
  obtain ⟨ad, ea, hb, hc⟩ := hr.2 hn
  exact ⟨ad, ea, Nat.lt_of_lt_of_le hb k.size, fun j u hu => (World.cell?_of_block (by rw [block_of_add]; exact k.block _ hb (hG _ (hlo hn ad ea)))).trans (hc j u hu)⟩
end Go.Proofs.Ytojbehblgmpbgaa
