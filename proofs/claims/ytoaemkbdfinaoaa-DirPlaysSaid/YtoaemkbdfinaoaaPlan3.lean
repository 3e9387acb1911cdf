/-
  A region by a plan that parts: where two operations may come up at once, each row has a plan of its own.
-/
import Derived.Test.YtoaemkbdfinaoaaPlan2
namespace Go.Proofs.Ytoaemkbdfinaoaa
open Go.RowKit
set_option linter.unusedVariables false

/-- A plan that parts: taken first; alone; one of two. -/
inductive Tr where
  | nil
  | t (i : Nat) (r : Tr)
  | s (i : Nat) (r : Tr)
  | b (i : Nat) (r : Tr) (j : Nat) (r' : Tr)

section
variable {P : Program} {ops : Array Oper} {Q : Exit → Act → World → Prop} {G : Nat → Prop}

def wpTr (P : Program) (ops : Array Oper) (Q : Exit → Act → World → Prop) (G : Nat → Prop) : Tr → Act → World → Prop
  | .nil, a, w => Q .normal a w
  | .t i r, a, w => ∃ o, ops[i]? = some o ∧ wpQuiet P ops (fun w' => ∃ p : Abv G w, w' = p.val) (fun a' => wpTr P ops Q G r a' w) [o] a
  | .s i r, a, w => ∃ o, ops[i]? = some o ∧ wpList P ops (Solo G w (wpTr P ops Q G r)) [o] a w
  | .b i r j r', a, w => ∃ oi oj, ops[i]? = some oi ∧ ops[j]? = some oj ∧ wpList P ops (Solo G w (wpTr P ops Q G r)) [oi] a w ∧ wpList P ops (Solo G w (wpTr P ops Q G r')) [oj] a w

def trB (ops : Array Oper) : Tr → Array Bool → Bool
  | .nil, listed => (Region.ready .any ops listed).isEmpty
  | .t i r, listed => (Region.ready .any ops listed).contains i && Region.free .any ops listed i && ((ops[i]?).map noCall).getD false && trB ops r (listed.setIfInBounds i true)
  | .s i r, listed => (Region.ready .any ops listed == [i]) && trB ops r (listed.setIfInBounds i true)
  | .b i r j r', listed => (Region.ready .any ops listed == [i, j]) && trB ops r (listed.setIfInBounds i true) && trB ops r' (listed.setIfInBounds j true)

def trLen : Tr → Nat
  | .nil => 0
  | .t _ r => trLen r + 1
  | .s _ r => trLen r + 1
  | .b _ r _ r' => max (trLen r) (trLen r') + 1

theorem tr_take {i : Nat} {o : Oper} {r : Tr} {a : Act} {w : World} (ho : ops[i]? = some o)
    (h : wpQuiet P ops (fun w' => ∃ p : Abv G w, w' = p.val) (fun a' => wpTr P ops Q G r a' w) [o] a) : wpTr P ops Q G (.t i r) a w := ⟨o, ho, h⟩
theorem tr_solo {i : Nat} {o : Oper} {r : Tr} {a : Act} {w : World} (ho : ops[i]? = some o)
    (h : wpList P ops (Solo G w (wpTr P ops Q G r)) [o] a w) : wpTr P ops Q G (.s i r) a w := ⟨o, ho, h⟩
theorem tr_both {i j : Nat} {oi oj : Oper} {r r' : Tr} {a : Act} {w : World} (hi : ops[i]? = some oi) (hj : ops[j]? = some oj)
    (h1 : wpList P ops (Solo G w (wpTr P ops Q G r)) [oi] a w) (h2 : wpList P ops (Solo G w (wpTr P ops Q G r')) [oj] a w) : wpTr P ops Q G (.b i r j r') a w := ⟨oi, oj, hi, hj, h1, h2⟩
theorem tr_end {a : Act} {w : World} (h : Q .normal a w) : wpTr P ops (OnlyN Q) G .nil a w := h

theorem tr_sound (hs : Region.noSelect ops = true) : ∀ (plan : Tr) (fuel : Nat) (listed : Array Bool) (a : Act) (w : World), trLen plan ≤ fuel → trB ops plan listed = true → wpTr P ops (OnlyN Q) G plan a w →
    wpAnyH P .any ops (OnlyN Q) (fun W => Keeps G w W) fuel listed a w
  | .nil, fuel, listed, a, w, _, hB, h => wpAnyH_done (by simpa [trB] using hB) h fuel
  | .t i r, 0, _, _, _, hf, _, _ => by simp [trLen] at hf
  | .s i r, 0, _, _, _, hf, _, _ => by simp [trLen] at hf
  | .b i r j r', 0, _, _, _, hf, _, _ => by simp [trLen] at hf
  | .t i r, fuel + 1, listed, a, w, hf, hB, h => by
    obtain ⟨o, ho, hq⟩ := h
    simp only [trB, Bool.and_eq_true, ho, Option.map_some, Option.getD_some] at hB
    obtain ⟨⟨⟨hr, hfr⟩, hn⟩, hB⟩ := hB
    have hlen : trLen r ≤ fuel := by simpa [trLen] using hf
    simp only [wpQuiet] at hq
    split at hq
    · rename_i hw
      obtain ⟨v, hv, hnext⟩ := hq
      exact wpAnyH_take ho hs hfr hr (fun _ _ _ h => h) (yields_of hn hw (fun W hW => rg_iff.2 hW) hv) (Keeps.refl _ _) (tr_sound hs r fuel _ _ _ hlen hB hnext)
    · rename_i hw
      exact wpAnyH_take ho hs hfr hr (fun _ _ _ h => h) (.inr ⟨by simpa using hw, rfl⟩) (Keeps.refl _ _) (tr_sound hs r fuel _ _ _ hlen hB hq)
  | .s i r, fuel + 1, listed, a, w, hf, hB, h => by
    obtain ⟨o, ho, hq⟩ := h
    simp only [trB, Bool.and_eq_true, beq_iff_eq] at hB
    obtain ⟨hr, hB⟩ := hB
    have hlen : trLen r ≤ fuel := by simpa [trLen] using hf
    refine wpAnyH_all hr (by simp) fun k hk => ?_
    obtain rfl : k = i := by simpa using hk
    exact op_sound ho (fun a' w' hb hk' => ⟨hb, wpAnyH_weaken (fun W hW => hb.trans hW) _ _ _ _ (tr_sound hs r fuel _ _ _ hlen hB hk')⟩) hq
  | .b i r j r', fuel + 1, listed, a, w, hf, hB, h => by
    obtain ⟨oi, oj, hoi, hoj, h1, h2⟩ := h
    simp only [trB, Bool.and_eq_true, beq_iff_eq] at hB
    obtain ⟨⟨hr, hBi⟩, hBj⟩ := hB
    have hlen : trLen r ≤ fuel ∧ trLen r' ≤ fuel := by simp only [trLen] at hf; omega
    refine wpAnyH_all hr (by simp) fun k hk => ?_
    have hk' : k = i ∨ k = j := by simpa using hk
    rcases hk' with rfl | rfl
    · exact op_sound hoi (fun a' w' hb hk' => ⟨hb, wpAnyH_weaken (fun W hW => hb.trans hW) _ _ _ _ (tr_sound hs r fuel _ _ _ hlen.1 hBi hk')⟩) h1
    · exact op_sound hoj (fun a' w' hb hk' => ⟨hb, wpAnyH_weaken (fun W hW => hb.trans hW) _ _ _ _ (tr_sound hs r' fuel _ _ _ hlen.2 hBj hk')⟩) h2

/-- The region, by such a plan. -/
theorem wp_region_tr (G : Nat → Prop) {id : Nat} {a : Act} {w : World} (plan : Tr) (hm : P.follows .mixedOrders = true) (hB : (Region.noSelect ops && (decide (trLen plan ≤ ops.size) && trB ops plan (Array.replicate ops.size false))) = true)
    (h : wpTr P ops (OnlyN Q) G plan a w.drew) : (Code.region id ops true).wp P Q a w := by
  simp only [Bool.and_eq_true, decide_eq_true_eq] at hB
  obtain ⟨h1, h2, h3⟩ := hB
  exact Code.wp_mono OnlyN.imp (wp_region_held (S := fun W => Keeps G w.drew W) hm (tr_sound h1 plan _ _ _ _ h2 h3 h))
end
end Go.Proofs.Ytoaemkbdfinaoaa
