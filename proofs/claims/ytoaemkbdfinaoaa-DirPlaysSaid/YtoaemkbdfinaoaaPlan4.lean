/-
  A region by a plan that parts, in which a call that leaves the world as it was is taken first, too.
-/
import Derived.Test.YtoaemkbdfinaoaaPlan3
import Derived.Test.YtoaemkbdfinaoaaRegion
namespace Go.Proofs.Ytoaemkbdfinaoaa
open Go.RowKit
set_option linter.unusedVariables false

/-- The blocks from g on. -/
def From (g : Nat) : Nat → Prop := fun k => g ≤ k
theorem keeps_below {G : Nat → Prop} {B : Nat} {w w' : World} (h : Below B w w') (hG : ∀ k, ¬ G k → k < B) : Keeps G w w' := ⟨h.os, h.tape, h.output, h.size, fun k _ hn => h.block k (hG k hn)⟩
/-- A plan that parts: taken first; a quiet call taken first; alone; one of two. -/
inductive Tq where
  | nil
  | t (i : Nat) (r : Tq)
  | q (i : Nat) (r : Tq)
  | s (i : Nat) (r : Tq)
  | b (i : Nat) (r : Tq) (j : Nat) (r' : Tq)

section
variable {P : Program} {ops : Array Oper} {Q : Exit → Act → World → Prop} {G : Nat → Prop}

def wpTq (P : Program) (ops : Array Oper) (Q : Exit → Act → World → Prop) (G : Nat → Prop) : Tq → Act → World → Prop
  | .nil, a, w => Q .normal a w
  | .t i r, a, w => ∃ o, ops[i]? = some o ∧ wpQuiet P ops (fun w' => ∃ p : Abv G w, w' = p.val) (fun a' => wpTq P ops Q G r a' w) [o] a
  | .q i r, a, w => ∃ o v, ops[i]? = some o ∧ YieldsC P ops (fun W => Keeps G w W) o v a ∧ wpTq P ops Q G r (a.put o.dst v) w
  | .s i r, a, w => ∃ o, ops[i]? = some o ∧ wpList P ops (Solo G w (wpTq P ops Q G r)) [o] a w
  | .b i r j r', a, w => ∃ oi oj, ops[i]? = some oi ∧ ops[j]? = some oj ∧ wpList P ops (Solo G w (wpTq P ops Q G r)) [oi] a w ∧ wpList P ops (Solo G w (wpTq P ops Q G r')) [oj] a w

def tqB (ops : Array Oper) : Tq → Array Bool → Bool
  | .nil, listed => (Region.ready .any ops listed).isEmpty
  | .t i r, listed => (Region.ready .any ops listed).contains i && Region.free .any ops listed i && ((ops[i]?).map noCall).getD false && tqB ops r (listed.setIfInBounds i true)
  | .q i r, listed => (Region.ready .any ops listed).contains i && Region.free .any ops listed i && tqB ops r (listed.setIfInBounds i true)
  | .s i r, listed => (Region.ready .any ops listed == [i]) && tqB ops r (listed.setIfInBounds i true)
  | .b i r j r', listed => (Region.ready .any ops listed == [i, j]) && tqB ops r (listed.setIfInBounds i true) && tqB ops r' (listed.setIfInBounds j true)

def tqLen : Tq → Nat
  | .nil => 0
  | .t _ r => tqLen r + 1
  | .q _ r => tqLen r + 1
  | .s _ r => tqLen r + 1
  | .b _ r _ r' => max (tqLen r) (tqLen r') + 1

theorem tq_take {i : Nat} {o : Oper} {r : Tq} {a : Act} {w : World} (ho : ops[i]? = some o)
    (h : wpQuiet P ops (fun w' => ∃ p : Abv G w, w' = p.val) (fun a' => wpTq P ops Q G r a' w) [o] a) : wpTq P ops Q G (.t i r) a w := ⟨o, ho, h⟩
theorem tq_solo {i : Nat} {o : Oper} {r : Tq} {a : Act} {w : World} (ho : ops[i]? = some o)
    (h : wpList P ops (Solo G w (wpTq P ops Q G r)) [o] a w) : wpTq P ops Q G (.s i r) a w := ⟨o, ho, h⟩
theorem tq_both {i j : Nat} {oi oj : Oper} {r r' : Tq} {a : Act} {w : World} (hi : ops[i]? = some oi) (hj : ops[j]? = some oj)
    (h1 : wpList P ops (Solo G w (wpTq P ops Q G r)) [oi] a w) (h2 : wpList P ops (Solo G w (wpTq P ops Q G r')) [oj] a w) : wpTq P ops Q G (.b i r j r') a w := ⟨oi, oj, hi, hj, h1, h2⟩
theorem tq_end {a : Act} {w : World} (h : Q .normal a w) : wpTq P ops (OnlyN Q) G .nil a w := h
/-- A quiet call taken first: in every world it hands on v and leaves the world as it was. -/
theorem tq_call {i : Nat} {o : Oper} {d : Option Tmp} {r : Tq} {a : Act} {w : World} (ho : ops[i]? = some o) (hd : o.dst = d) (hw : Region.wanted o (yielded ops a.tmps) = true)
    (f : FuncId) (args : Array Value) (v : Value) (hrun : ∀ W, (execOp a.eval o).run P W = .ok (.enter f args) W) (hc : ∀ W, Keeps G w W → Calls P f args W fun e w' => e = .returned v ∧ W = w')
    (h : wpTq P ops Q G r (a.put d v) w) : wpTq P ops Q G (.q i r) a w := by
  subst hd
  exact ⟨o, v, ho, .inl ⟨hw, fun W hW => .inr ⟨f, args, hrun W, hc W hW⟩⟩, h⟩

theorem tq_val {i : Nat} {o : Oper} {d : Option Tmp} {r : Tq} {a : Act} {w : World} (ho : ops[i]? = some o) (hd : o.dst = d) (hw : Region.wanted o (yielded ops a.tmps) = true)
    (v : Value) (hrun : ∀ W, (execOp a.eval o).run P W = .ok (.value v) W) (h : wpTq P ops Q G r (a.put d v) w) : wpTq P ops Q G (.q i r) a w := by
  subst hd
  exact ⟨o, v, ho, .inl ⟨hw, fun W hW => .inl (hrun W)⟩, h⟩

theorem tq_sound (hs : Region.noSelect ops = true) : ∀ (plan : Tq) (fuel : Nat) (listed : Array Bool) (a : Act) (w : World), tqLen plan ≤ fuel → tqB ops plan listed = true → wpTq P ops (OnlyN Q) G plan a w →
    wpAnyH P .any ops (OnlyN Q) (fun W => Keeps G w W) fuel listed a w
  | .nil, fuel, listed, a, w, _, hB, h => wpAnyH_done (by simpa [tqB] using hB) h fuel
  | .t i r, 0, _, _, _, hf, _, _ => by simp [tqLen] at hf
  | .q i r, 0, _, _, _, hf, _, _ => by simp [tqLen] at hf
  | .s i r, 0, _, _, _, hf, _, _ => by simp [tqLen] at hf
  | .b i r j r', 0, _, _, _, hf, _, _ => by simp [tqLen] at hf
  | .t i r, fuel + 1, listed, a, w, hf, hB, h => by
    obtain ⟨o, ho, hq⟩ := h
    simp only [tqB, Bool.and_eq_true, ho, Option.map_some, Option.getD_some] at hB
    obtain ⟨⟨⟨hr, hfr⟩, hn⟩, hB⟩ := hB
    have hlen : tqLen r ≤ fuel := by simpa [tqLen] using hf
    simp only [wpQuiet] at hq
    split at hq
    · rename_i hw
      obtain ⟨v, hv, hnext⟩ := hq
      exact wpAnyH_take ho hs hfr hr (fun _ _ _ h => h) (yields_of hn hw (fun W hW => rg_iff.2 hW) hv) (Keeps.refl _ _) (tq_sound hs r fuel _ _ _ hlen hB hnext)
    · rename_i hw
      exact wpAnyH_take ho hs hfr hr (fun _ _ _ h => h) (.inr ⟨by simpa using hw, rfl⟩) (Keeps.refl _ _) (tq_sound hs r fuel _ _ _ hlen hB hq)
  | .q i r, fuel + 1, listed, a, w, hf, hB, h => by
    obtain ⟨o, v, ho, hy, hnext⟩ := h
    simp only [tqB, Bool.and_eq_true] at hB
    obtain ⟨⟨hr, hfr⟩, hB⟩ := hB
    have hlen : tqLen r ≤ fuel := by simpa [tqLen] using hf
    exact rg_take ho rfl hs hfr hr (fun _ _ _ h => h) (Keeps.refl _ _) hy (tq_sound hs r fuel _ _ _ hlen hB hnext)
  | .s i r, fuel + 1, listed, a, w, hf, hB, h => by
    obtain ⟨o, ho, hq⟩ := h
    simp only [tqB, Bool.and_eq_true, beq_iff_eq] at hB
    obtain ⟨hr, hB⟩ := hB
    have hlen : tqLen r ≤ fuel := by simpa [tqLen] using hf
    refine wpAnyH_all hr (by simp) fun k hk => ?_
    obtain rfl : k = i := by simpa using hk
    exact op_sound ho (fun a' w' hb hk' => ⟨hb, wpAnyH_weaken (fun W hW => hb.trans hW) _ _ _ _ (tq_sound hs r fuel _ _ _ hlen hB hk')⟩) hq
  | .b i r j r', fuel + 1, listed, a, w, hf, hB, h => by
    obtain ⟨oi, oj, hoi, hoj, h1, h2⟩ := h
    simp only [tqB, Bool.and_eq_true, beq_iff_eq] at hB
    obtain ⟨⟨hr, hBi⟩, hBj⟩ := hB
    have hlen : tqLen r ≤ fuel ∧ tqLen r' ≤ fuel := by simp only [tqLen] at hf; omega
    refine wpAnyH_all hr (by simp) fun k hk => ?_
    have hk' : k = i ∨ k = j := by simpa using hk
    rcases hk' with rfl | rfl
    · exact op_sound hoi (fun a' w' hb hk' => ⟨hb, wpAnyH_weaken (fun W hW => hb.trans hW) _ _ _ _ (tq_sound hs r fuel _ _ _ hlen.1 hBi hk')⟩) h1
    · exact op_sound hoj (fun a' w' hb hk' => ⟨hb, wpAnyH_weaken (fun W hW => hb.trans hW) _ _ _ _ (tq_sound hs r' fuel _ _ _ hlen.2 hBj hk')⟩) h2

/-- The region, by such a plan. -/
theorem wp_region_tq (G : Nat → Prop) {id : Nat} {a : Act} {w : World} (plan : Tq) (hm : P.follows .mixedOrders = true) (hB : (Region.noSelect ops && (decide (tqLen plan ≤ ops.size) && tqB ops plan (Array.replicate ops.size false))) = true)
    (h : wpTq P ops (OnlyN Q) G plan a w.drew) : (Code.region id ops true).wp P Q a w := by
  simp only [Bool.and_eq_true, decide_eq_true_eq] at hB
  obtain ⟨h1, h2, h3⟩ := hB
  exact Code.wp_mono OnlyN.imp (wp_region_held (S := fun W => Keeps G w.drew W) hm (tq_sound h1 plan _ _ _ _ h2 h3 h))
end
end Go.Proofs.Ytoaemkbdfinaoaa
