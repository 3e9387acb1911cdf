/-
  Layer 2: Split.
-/
import Derived.Test.YthfepdgamhidgaaLittleV
import Derived.Test.YthfepdgamhidgaaLittleS
import Derived.Test.YthfepdgamhidgaaVals
import Derived.Test.YthfepdgamhidgaaRowInW
namespace Go.Proofs.Ythfepdgamhidgaa
open Go.RowKit
set_option linter.unusedVariables false

theorem rowsElem : Elem Try.prog 40 22 (.slice none 0 0) 1 24 := elem_of Try.underlying40 (by kernel_rfl) rfl (by omega)

/-- '.slice A n c', a slice of slices of bytes, owns its row, from block base on; its parts read as ls, and lie in other blocks, from block lo on. -/
def OwBL (w : World) (base lo : Nat) (A : Option Addr) (n c : Nat) (ls : List (List UInt8)) : Prop :=
  ∃ vs : List Value, OwV w base 22 A n c vs ∧ vs.length = ls.length ∧ ∀ (i : Nat) (v : Value) (l : List UInt8), vs[i]? = some v → ls[i]? = some l →
    ∃ Ai ni ci, v = .slice Ai ni ci ∧ RdB w w.heap.size Ai ni l ∧ ni ≤ ci ∧ ci ≤ maxLen ∧ (0 < ni → ∀ a b, Ai = some a → A = some b → a.block ≠ b.block) ∧ (0 < ni → ∀ a, Ai = some a → lo ≤ a.block)
abbrev OwBB (w : World) (base : Nat) (A : Option Addr) (n c : Nat) (ls : List (List UInt8)) : Prop := OwBL w base 0 A n c ls

section
variable {w w' : World} {base lo n c : Nat} {A : Option Addr} {ls : List (List UInt8)}
theorem OwBL.nil (w : World) (base lo : Nat) : OwBL w base lo none 0 0 [] := ⟨[], OwV.nil _ _ _, rfl, fun i v l h => by simp at h⟩
theorem OwBL.up (h : OwBL w base lo A n c ls) (k : Below w.heap.size w w') : OwBL w' base lo A n c ls := by
  obtain ⟨vs, h1, h2, h3⟩ := h
  refine ⟨vs, h1.up k, h2, fun i v l hv hl => ?_⟩
  obtain ⟨Ai, ni, ci, e, hr, hc⟩ := h3 i v l hv hl
  exact ⟨Ai, ni, ci, e, hr.up k, hc⟩
theorem OwBL.lower {base' : Nat} (h : OwBL w base lo A n c ls) (hb : base' ≤ base) : OwBL w base' lo A n c ls := by
  obtain ⟨vs, h1, h2, h3⟩ := h
  exact ⟨vs, h1.lower hb, h2, h3⟩
theorem OwBL.len (h : OwBL w base lo A n c ls) : ls.length = n := by obtain ⟨vs, h1, h2, _⟩ := h; rw [← h2]; exact h1.len
theorem OwBL.cap (h : OwBL w base lo A n c ls) : n ≤ c ∧ c ≤ maxLen := by obtain ⟨vs, h1, _⟩ := h; exact h1.cap
theorem OwBL.lt (h : OwBL w base lo A n c ls) : ∀ b, A = some b → b.block < w.heap.size := by
  obtain ⟨vs, h1, _⟩ := h
  intro b hb
  subst hb
  exact (Own.lt h1 b.block rfl).2
theorem OwBL.rd (h : OwBL w base lo A n c ls) : RdBB w w.heap.size A n ls := by
  refine ⟨h.len, fun h0 => ?_⟩
  obtain ⟨vs, h1, h2, h3⟩ := h
  obtain ⟨b, off, u, hA, hb, _⟩ := h1.rd.at_ h0
  refine ⟨b, off, hA, hb, fun i l hl => ?_⟩
  have hi : i < n := by
    have := (List.getElem?_eq_some_iff.1 hl).1
    have := h1.len
    omega
  obtain ⟨b', off', u', hA', _, hu', hc'⟩ := h1.rd.at_ hi
  rw [hA] at hA'
  injection hA' with e
  injection e with e1 e2
  subst e1 e2
  obtain ⟨Ai, ni, ci, e, hr, hc1, hc2, _⟩ := h3 i u' l hu' hl
  subst e
  exact ⟨Ai, ni, ci, hc', hr, hc1, hc2⟩
end

theorem RdB.through {w w' : World} {o : Obj} {A Ai : Option Addr} {ni : Nat} {l : List UInt8} (h : RdB w w.heap.size Ai ni l) (hne : 0 < ni → ∀ a b, Ai = some a → A = some b → a.block ≠ b.block) (hg : (w.alloc o).grownBy w' (A.map (·.block))) : RdB w' w'.heap.size Ai ni l := by
  refine ⟨h.1, fun hn => ?_⟩
  obtain ⟨ad, e, hb, hc⟩ := h.2 hn
  have hs := hg.size
  have hs2 : (w.alloc o).heap.size = w.heap.size + 1 := by simp
  refine ⟨ad, e, by omega, fun j u hu => ?_⟩
  have e1 : w'.heap[(ad.add j).block]? = w.heap[(ad.add j).block]? := by
    rw [block_of_add]
    rw [hg.block ad.block (by omega) (fun e2 => by
      cases hA : A with
      | none => rw [hA] at e2; cases e2
      | some b =>
        rw [hA] at e2
        exact hne hn ad b e hA (Option.some.inj e2))]
    exact Below.heap_alloc w o ad.block hb
  exact (World.cell?_of_block e1).trans (hc j u hu)

/-- append of one slice of bytes. -/
theorem wpList_appendBB {P : Program} {w : World} {ops : Array Oper} {rest : List Oper} {o : Oper} {a : Act} {Q : Exit → Act → World → Prop} {t : TypeId} (el : Elem P t 22 (.slice none 0 0) 1 24)
    (hgd : o.guard = none) (s x : Operand) (ho : o.op = .call { callee := .builtin .append, args := #[s, x], argTypes := #[t, t] })
    (base lo : Nat) (A0 : Option Addr) (n0 c0 : Nat) (ls : List (List UInt8)) (hs : a.eval s = .slice A0 n0 c0) (hown : OwBL w base lo A0 n0 c0 ls)
    (A1 : Option Addr) (n1 c1 : Nat) (l1 : List UInt8) (h1 : RdB w w.heap.size A1 n1 l1) (hc1 : n1 ≤ c1) (hc2 : c1 ≤ maxLen) (hne : 0 < n1 → ∀ a b, A1 = some a → A0 = some b → a.block ≠ b.block) (hlo : 0 < n1 → ∀ a, A1 = some a → lo ≤ a.block)
    (hx : a.eval x = .slice (some ⟨w.heap.size, 0, none⟩) 1 1) (hn : n0 + 1 ≤ 1048576) (hbase : base ≤ w.heap.size)
    (k : ∀ (A : Option Addr) (n c : Nat) (ls' : List (List UInt8)) (w' : World), Hid (ls' = ls ++ [l1]) → Hid (n = n0 + 1) → OwBL w' base lo A n c ls' → Below base w w' → wpList P ops Q rest (a.put o.dst (.slice A n c)) w') :
    wpList P ops Q (o :: rest) a (w.alloc (.cells #[.slice A1 n1 c1] 22)) := by
  have hlt := hown.lt
  obtain ⟨vs, hv, hl, hall⟩ := hown
  refine wpList_append_mine el hgd s x t ho base (.slice A0 n0 c0) n0 vs hs (hv.alloc _) _ hx 1 [.slice A1 n1 c1] (Src.oneV w t 22 el.ht _ rfl _) (by omega) (by omega) (by simp; omega) ?_
  intro A c w' ho' hg hblk
  have hrb : (Value.slice A0 n0 c0).ownBlock = A0.map (·.block) := by cases A0 <;> rfl
  have hra : (Value.slice A (n0 + 1) c).ownBlock = A.map (·.block) := by cases A <;> rfl
  rw [hrb] at hg hblk
  rw [hra] at hblk
  have hs2 : (w.alloc (.cells #[.slice A1 n1 c1] 22)).heap.size = w.heap.size + 1 := by simp
  have apart : ∀ {Ai : Option Addr} {ni : Nat} {l : List UInt8}, RdB w w.heap.size Ai ni l → (0 < ni → ∀ a b, Ai = some a → A0 = some b → a.block ≠ b.block) → (0 < ni → ∀ a b, Ai = some a → A = some b → a.block ≠ b.block) := by
    intro Ai ni l hr hd h0 a b ha hb
    obtain ⟨ad, e, hlt', _⟩ := hr.2 h0
    rw [ha] at e
    injection e with e
    subst e
    rw [hb] at hblk
    rcases hblk with h | h
    · cases hA0 : A0 with
      | none => rw [hA0] at h; cases h
      | some b0 =>
        rw [hA0] at h
        have : b.block = b0.block := Option.some.inj h
        rw [this]
        exact hd h0 a b0 ha hA0
    · have : b.block = w.heap.size + 1 := by rw [← hs2]; exact Option.some.inj h
      omega
  refine k A (n0 + 1) c (ls ++ [l1]) w' rfl rfl ⟨vs ++ [Value.slice A1 n1 c1], ho', by simp [hl], ?_⟩ ?_
  · intro i v l hvi hli
    rcases Nat.lt_or_ge i vs.length with hi | hi
    · rw [List.getElem?_append_left hi] at hvi
      rw [List.getElem?_append_left (by omega)] at hli
      obtain ⟨Ai, ni, ci, e, hr, h3, h4, h5, h6⟩ := hall i v l hvi hli
      exact ⟨Ai, ni, ci, e, hr.through h5 hg, h3, h4, apart hr h5, h6⟩
    · rw [List.getElem?_append_right hi] at hvi
      rw [List.getElem?_append_right (by omega)] at hli
      have hi0 : i - vs.length = 0 := by
        rcases Nat.eq_zero_or_pos (i - vs.length) with h | h
        · exact h
        · rw [List.getElem?_eq_none (by simp; omega)] at hvi; cases hvi
      have hi1 : i - ls.length = 0 := by omega
      rw [hi0] at hvi
      rw [hi1] at hli
      simp at hvi hli
      subst hvi hli
      exact ⟨A1, n1, c1, rfl, h1.through hne hg, hc1, hc2, apart h1 hne, hlo⟩
  · refine ⟨hg.os, hg.tape, hg.output, Nat.le_trans (by simp) hg.size, fun q hq => ?_⟩
    rw [hg.block q (by omega) (fun e => by
      cases hA0 : A0 with
      | none => rw [hA0] at e; cases e
      | some b0 =>
        rw [hA0] at e
        have h6 := (Own.lt hv b0.block (by rw [hA0]; rfl)).1
        have : b0.block = q := (Option.some.inj e).symm
        omega)]
    exact Below.heap_alloc w _ q (by omega)

theorem RdB.thru {w w' : World} {A Ai : Option Addr} {ni : Nat} {l : List UInt8} (h : RdB w w.heap.size Ai ni l) (hne : 0 < ni → ∀ a b, Ai = some a → A = some b → a.block ≠ b.block) (hg : w.grownBy w' (A.map (·.block))) : RdB w' w'.heap.size Ai ni l := by
  refine ⟨h.1, fun hn => ?_⟩
  obtain ⟨ad, e, hb, hc⟩ := h.2 hn
  have hs := hg.size
  refine ⟨ad, e, by omega, fun j u hu => ?_⟩
  have e1 : w'.heap[(ad.add j).block]? = w.heap[(ad.add j).block]? := by
    rw [block_of_add]
    exact hg.block ad.block (by omega) (fun e2 => by
      cases hA : A with
      | none => rw [hA] at e2; cases e2
      | some b =>
        rw [hA] at e2
        exact hne hn ad b e hA (Option.some.inj e2))
  exact (World.cell?_of_block e1).trans (hc j u hu)

/-- append of many slices of bytes. -/
theorem wpList_appendRows {P : Program} {w : World} {ops : Array Oper} {rest : List Oper} {o : Oper} {a : Act} {Q : Exit → Act → World → Prop} {t : TypeId} (el : Elem P t 22 (.slice none 0 0) 1 24)
    (hgd : o.guard = none) (s x : Operand) (ho : o.op = .call { callee := .builtin .append, args := #[s, x], argTypes := #[t, t] })
    (base lo : Nat) (A0 : Option Addr) (n0 c0 : Nat) (ls : List (List UInt8)) (hs : a.eval s = .slice A0 n0 c0) (hown : OwBL w base lo A0 n0 c0 ls)
    (base1 lo1 : Nat) (A1 : Option Addr) (n1 c1 : Nat) (ls1 : List (List UInt8)) (hx : a.eval x = .slice A1 n1 c1) (hown1 : OwBL w base1 lo1 A1 n1 c1 ls1)
    (hlt : ∀ b, A0 = some b → b.block < lo1) (hlo : lo ≤ lo1) (hn : n0 + n1 ≤ 1048576) (hbase : base ≤ w.heap.size)
    (k : ∀ (A : Option Addr) (n c : Nat) (ls' : List (List UInt8)) (w' : World), Hid (ls' = ls ++ ls1) → Hid (n = n0 + n1) → OwBL w' base lo A n c ls' → Below base w w' → w.grownBy w' (A0.map (·.block)) → wpList P ops Q rest (a.put o.dst (.slice A n c)) w') :
    wpList P ops Q (o :: rest) a w := by
  obtain ⟨vs, hv, hl, hall⟩ := hown
  obtain ⟨vs1, hv1, hl1, hall1⟩ := hown1
  have hone : ∀ v ∈ vs1, v.oneCell' = true := by
    intro v hv'
    obtain ⟨i, hi, e⟩ := List.getElem_of_mem hv'
    obtain ⟨Ai, ni, ci, e2, _⟩ := hall1 i v (ls1[i]'(by omega)) (by rw [List.getElem?_eq_getElem hi, e]) (List.getElem?_eq_getElem (by omega))
    subst e2
    rfl
  refine wpList_append_mine el hgd s x t ho base (.slice A0 n0 c0) n0 vs hs hv _ hx n1 vs1 (hv1.rd.src (c := c1) t 22 el.ht hone) (by omega) (by omega) hbase ?_
  intro A c w' ho' hg hblk
  have hrb : (Value.slice A0 n0 c0).ownBlock = A0.map (·.block) := by cases A0 <;> rfl
  have hra : (Value.slice A (n0 + n1) c).ownBlock = A.map (·.block) := by cases A <;> rfl
  rw [hrb] at hg hblk
  rw [hra] at hblk
  have apart : ∀ {Ai : Option Addr} {ni : Nat} {l : List UInt8}, RdB w w.heap.size Ai ni l → (0 < ni → ∀ a b, Ai = some a → A0 = some b → a.block ≠ b.block) → (0 < ni → ∀ a b, Ai = some a → A = some b → a.block ≠ b.block) := by
    intro Ai ni l hr hd h0 a b ha hb
    obtain ⟨ad, e, hlt', _⟩ := hr.2 h0
    rw [ha] at e
    injection e with e
    subst e
    rw [hb] at hblk
    rcases hblk with h | h
    · cases hA0 : A0 with
      | none => rw [hA0] at h; cases h
      | some b0 =>
        rw [hA0] at h
        have : b.block = b0.block := Option.some.inj h
        rw [this]
        exact hd h0 a b0 ha hA0
    · have : b.block = w.heap.size := Option.some.inj h
      omega
  refine k A (n0 + n1) c (ls ++ ls1) w' rfl rfl ⟨vs ++ vs1, ho', by simp [hl, hl1], ?_⟩ ⟨hg.os, hg.tape, hg.output, hg.size, fun q hq => hg.block q (by omega) (fun e => ?_)⟩ hg
  · intro i v l hvi hli
    rcases Nat.lt_or_ge i vs.length with hi | hi
    · rw [List.getElem?_append_left hi] at hvi
      rw [List.getElem?_append_left (by omega)] at hli
      obtain ⟨Ai, ni, ci, e, hr, h3, h4, h5, h6⟩ := hall i v l hvi hli
      exact ⟨Ai, ni, ci, e, hr.thru h5 hg, h3, h4, apart hr h5, h6⟩
    · rw [List.getElem?_append_right hi] at hvi
      rw [List.getElem?_append_right (by omega)] at hli
      obtain ⟨Ai, ni, ci, e, hr, h3, h4, h5, h6⟩ := hall1 (i - vs.length) v l hvi (by rw [hl]; exact hli)
      have h7 : 0 < ni → ∀ a b, Ai = some a → A0 = some b → a.block ≠ b.block := fun h0 a b ha hb => by
        have := h6 h0 a ha
        have := hlt b hb
        omega
      exact ⟨Ai, ni, ci, e, hr.thru h7 hg, h3, h4, apart hr h7, fun h0 a ha => Nat.le_trans hlo (h6 h0 a ha)⟩
  · cases hA0 : A0 with
    | none => rw [hA0] at e; cases e
    | some b0 =>
      rw [hA0] at e
      have h6 := (Own.lt hv b0.block (by rw [hA0]; rfl)).1
      have : b0.block = q := (Option.some.inj e).symm
      omega

theorem OwB.lo {w : World} {base lo n c : Nat} {A : Option Addr} {l : List UInt8} (h : OwB w base A n c l) (hb : lo ≤ base) : 0 < n → ∀ a, A = some a → lo ≤ a.block := by
  intro h0 a ha
  obtain ⟨g, hg, hbs, _⟩ := h.blk h0
  rw [hg] at ha
  injection ha with ha
  subst ha
  exact Nat.le_trans hb hbs

def SplitPost (w : World) (S : Spl) (e : Ending) (w' : World) : Prop :=
  ∃ A n c ls Ar nr cr r E, Hid (ls = S.ms) ∧ Hid (r = S.rest) ∧ Hid (E = S.err) ∧ e = .returned (.tuple #[.slice A n c, .slice Ar nr cr, .int .i64 E]) ∧ OwBL w' w.heap.size w.heap.size A n c ls ∧ RdB w' w'.heap.size Ar nr r ∧ (nr ≤ cr ∧ cr ≤ maxLen ∧ (0 < nr → ∀ a, Ar = some a → w.heap.size ≤ a.block)) ∧ Below w.heap.size w w'

def SplRel (w : World) (msize : Int) (b0 : List UInt8) (v l : Value) (wr : World) : Prop :=
  ∃ A n c bl Al nl cl ls, v = .slice A n c ∧ l = .slice Al nl cl ∧ RdB wr w.heap.size A n bl ∧ n ≤ c ∧ c ≤ maxLen ∧ OwBL wr w.heap.size w.heap.size Al nl cl ls ∧ bl.length + ls.length ≤ b0.length ∧
    splitL msize b0 = ⟨ls ++ (splitL msize bl).ms, (splitL msize bl).rest, (splitL msize bl).err⟩ ∧ Below w.heap.size w wr
def lenV : Value → Nat | .slice _ n _ => n | _ => 0

set_option maxHeartbeats 2000000 in
theorem split_any (A : Option Addr) (n c : Nat) (b0 : List UInt8) (msize : Int) (w : World) (h : RdB w w.heap.size A n b0) (hn : n ≤ c) (hc : c ≤ maxLen) (hb : n ≤ 65536) (hm0 : -9223372036854775808 ≤ msize) (hm1 : msize ≤ 9223372036854775807) :
    Calls Try.prog 22 #[.slice A n c, .int .i64 msize] w (SplitPost w (splitL msize b0)) := by
  have hb0 : b0.length ≤ 65536 := by rw [h.len]; exact hb
  go_enter Try.func22, Try.ntmps22
  go_wp2
  go_loopw [0, 7] (fun v l wr => SplRel w msize b0 v l wr) (fun v _ _ => lenV v)
  case atStart => exact ⟨A, n, c, b0, none, 0, 0, [], rfl, rfl, h, hn, hc, OwBL.nil _ _ _, by simp, by simp, Below.refl _ _⟩
  case round =>
    obtain ⟨A1, n1, c1, bl, Al, nl, cl, ls, rfl, rfl, hr, hnc, hcm, hown, hlen, hspl, hbw⟩ := hrel
    have HS := Lib.hid hspl
    have hln := hr.len
    have hnl := hown.len
    have hsw := hbw.size
    have hcm' := hcm
    unfold maxLen at hcm'
    have hn1 : n1 ≤ 65536 := by omega
    have hnl1 : nl ≤ 65536 := by omega
    have HLN := Lib.hid hln
    have HNL := Lib.hid hnl
    have HLE := Lib.hid hlen
    clear hspl hln hnl hlen
    by_cases h4 : n1 < 4
    · have hs := split_few (msize := msize) (b := bl) (by rw [HLN.out]; exact h4)
      have hS2 := HS.out
      rw [hs] at hS2
      have HS2 := Lib.hid hS2
      have hd : decide ((4 : Int) ≤ n1) = false := by simp; omega
      clear hs hS2
      go_wp2_with fail
      refine (clone_any A1 n1 c1 bl _ (hr.more hsw) (by omega)).mono ?_
      rintro e w2 ⟨A2, n2, c2, l2, hl2, rfl, hown2, hb2⟩
      go_wp2
      go_ret3
      refine ⟨Al, nl, cl, ls, A2, n2, c2, l2, 0, ?_, ?_, ?_, rfl, hown.up hb2, hown2.rd, ⟨hown2.cap.1, hown2.cap.2, hown2.lo hsw⟩, hbw.trans (hb2.mono hsw)⟩
      · show _ = _; rw [HS2.out]; simp
      · show _ = _; rw [HS2.out, hl2.out]
      · show _ = _; rw [HS2.out]
    · have h4' : ¬ bl.length < 4 := by rw [HLN.out]; exact h4
      have hd4 : (4 : Int) ≤ n1 := by omega
      have hf := hr.first (k := 4) (by omega)
      have HF := Lib.hid hf
      clear hf
      go_wp2_with fail
      refine (read_any A1 4 c1 (bl.take 4) _ (HF.out.more hsw) (by omega)).mono ?_
      rintro e w2 ⟨g, rfl, hg, hR, hb2⟩
      go_wp2_with fail
      refine (rU32_any g (bl.take 4) 0 _ hR).mono ?_
      rintro e w3 ⟨v, l3, e3, hv, hl3, he3, rfl, hR3, hK3⟩
      have hvn : v = num (bl.take 4) := by
        rw [hv.out]
        have := nxB_app (bl.take 4) [] 4 (by rw [List.length_take]; omega)
        rw [List.append_nil] at this
        rw [this]
      have hvb : v ≤ 4294967295 := by
        have h1 := num_lt (bl.take 4)
        have h2 := Nat.pow_le_pow_right (show 0 < 256 by omega) (show (bl.take 4).length ≤ 4 by rw [List.length_take]; omega)
        omega
      have hb23 : Below wr.heap.size w2 w3 := hK3.is hg (Nat.le_of_lt hR.lt)
      have hb03 : Below wr.heap.size wr w3 := hb2.trans hb23
      have hown3 := hown.up hb03
      have hr3 := hr.below (hb03.mono hsw)
      have hbw3 := hbw.trans (hb03.mono hsw)
      have hsw3 := hbw3.size
      have HV := Lib.hid hvn
      clear hvn hR hR3 hK3 hb2 hb23 hown hr
      by_cases h7 : v < 7
      · have hs := split_form (msize := msize) h4' (by rw [← HV.out]; exact h7)
        have hS2 := HS.out
        rw [hs] at hS2
        have HS2 := Lib.hid hS2
        clear hs hS2
        go_wp2
        go_ret3
        refine ⟨Al, nl, cl, ls, none, 0, 0, [], 2, ?_, ?_, ?_, rfl, hown3, RdB.nil, ⟨Nat.le_refl _, by unfold maxLen; omega, fun h => absurd h (by omega)⟩, hbw3⟩
        · show _ = _; rw [HS2.out]; simp
        · show _ = _; rw [HS2.out]
        · show _ = _; rw [HS2.out]
      · by_cases hmx : msize < v
        · have hs := split_range (msize := msize) h4' (by rw [← HV.out]; exact h7) (by rw [← HV.out]; exact hmx)
          have hS2 := HS.out
          rw [hs] at hS2
          have HS2 := Lib.hid hS2
          clear hs hS2
          go_wp2
          go_ret3
          refine ⟨Al, nl, cl, ls, none, 0, 0, [], 4, ?_, ?_, ?_, rfl, hown3, RdB.nil, ⟨Nat.le_refl _, by unfold maxLen; omega, fun h => absurd h (by omega)⟩, hbw3⟩
          · show _ = _; rw [HS2.out]; simp
          · show _ = _; rw [HS2.out]
          · show _ = _; rw [HS2.out]
        · by_cases hlt : n1 < v
          · have hs := split_part (msize := msize) h4' (by rw [← HV.out]; exact h7) (by rw [← HV.out]; exact hmx) (by rw [← HV.out, HLN.out]; exact hlt)
            have hS2 := HS.out
            rw [hs] at hS2
            have HS2 := Lib.hid hS2
            clear hs hS2
            go_wp2_with fail
            refine (clone_any A1 n1 c1 bl _ (hr3.more hsw3) (by omega)).mono ?_
            rintro e w4 ⟨A2, n2, c2, l2, hl2, rfl, hown2, hb4⟩
            go_wp2
            go_ret3
            refine ⟨Al, nl, cl, ls, A2, n2, c2, l2, 0, ?_, ?_, ?_, rfl, hown3.up hb4, hown2.rd, ⟨hown2.cap.1, hown2.cap.2, hown2.lo hsw3⟩, hbw3.trans (hb4.mono hsw3)⟩
            · show _ = _; rw [HS2.out]; simp
            · show _ = _; rw [HS2.out, hl2.out]
            · show _ = _; rw [HS2.out]
          · have hs := split_next (msize := msize) h4' (by rw [← HV.out]; exact h7) (by rw [← HV.out]; exact hmx) (by rw [← HV.out, HLN.out]; exact hlt)
            rw [← HV.out] at hs
            have hS2 := HS.out
            rw [hs] at hS2
            have HS2 := Lib.hid hS2
            have hvn1 : v ≤ n1 := by omega
            have hf2 := hr3.first (k := v) hvn1
            have HF2 := Lib.hid hf2
            obtain ⟨Ak, hAk⟩ : ∃ Ak, (if c1 = v then A1 else A1.map (fun x => x.add v)) = Ak := ⟨_, rfl⟩
            have hcut := hr3.cut hvn1 hnc
            have hAk' : (if c1 = v then A1 else A1.map (·.add v)) = Ak := hAk
            rw [hAk'] at hcut
            have HC := Lib.hid hcut
            clear hs hS2 hf2 hcut hAk'
            go_wp2_with fail
            refine (clone_any A1 v c1 (bl.take v) _ (HF2.out.more hsw3) (by omega)).mono ?_
            rintro e w4 ⟨A2, n2, c2, l2, hl2, rfl, hown2, hb4⟩
            have hcap2 := hown2.cap
            have hown4 := hown3.up hb4
            have hlt3 := hown3.lt
            have hne : 0 < n2 → ∀ a b, A2 = some a → Al = some b → a.block ≠ b.block := by
              intro h0 a b ha hb
              obtain ⟨g2, hg2, hbs, _⟩ := hown2.blk h0
              rw [hg2] at ha
              injection ha with ha
              subst ha
              have := hlt3 b hb
              show g2 ≠ b.block
              omega
            have hbw4 := hbw3.trans (hb4.mono hsw3)
            have hsw4 := hbw4.size
            have hlo2 : 0 < n2 → ∀ a, A2 = some a → w.heap.size ≤ a.block := by
              intro h0 a ha
              obtain ⟨g2, hg2, hbs, _⟩ := hown2.blk h0
              rw [hg2] at ha
              injection ha with ha
              subst ha
              show w.heap.size ≤ g2
              omega
            have HNE := Lib.hid hne
            have HLO := Lib.hid hlo2
            clear hne hlt3 hlo2
            go_wp2_with (at_builtin; go_must (refine wpList_appendBB rowsElem rfl (.tmp 34) (.tmp 39) rfl w.heap.size w.heap.size Al nl cl ls rfl hown4 A2 n2 c2 l2 hown2.rd hcap2.1 hcap2.2 HNE.out HLO.out rfl (by omega) hsw4 ?_); intro A5 n5 c5 ls5 w5 hls5 hn5 hown5 hb5)
            go_roundw
            case rel =>
              have hb45 : Below w.heap.size w4 w5 := hb5
              have hr5 : RdB w5 w.heap.size Ak (n1 - v) (bl.drop v) := (HC.out.below (hb4.mono hsw3)).below hb45
              refine ⟨Ak, n1 - v, c1 - v, bl.drop v, A5, n5, c5, ls5, rfl, rfl, hr5, by omega, by unfold maxLen; omega, hown5, ?_, ?_, hbw4.trans hb5⟩
              · rw [hls5.out, List.length_append, List.length_drop]
                have := HLE.out
                have := HLN.out
                simp
                omega
              · rw [HS2.out, hls5.out, hl2.out]
                simp
            case measure => simp [lenV]; omega
end Go.Proofs.Ythfepdgamhidgaa
