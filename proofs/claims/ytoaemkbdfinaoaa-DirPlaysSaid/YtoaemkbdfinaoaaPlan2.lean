/-
  A region by a plan, where two operations may come up at once: both rows.
-/
import Derived.Test.YtoaemkbdfinaoaaPlan
namespace Go.Proofs.Ytoaemkbdfinaoaa
open Go.RowKit
set_option linter.unusedVariables false

/-- One step of a plan: taken first; alone; two in both rows. -/
inductive Pl where
  | t (i : Nat)
  | s (i : Nat)
  | b (i j : Nat)

section
variable {P : Program} {ops : Array Oper} {Q : Exit → Act → World → Prop} {G : Nat → Prop}

def wpPlan2 (P : Program) (ops : Array Oper) (Q : Exit → Act → World → Prop) (G : Nat → Prop) : List Pl → Act → World → Prop
  | [], a, w => Q .normal a w
  | .t i :: r, a, w => ∃ o, ops[i]? = some o ∧ wpQuiet P ops (fun w' => ∃ p : Abv G w, w' = p.val) (fun a' => wpPlan2 P ops Q G r a' w) [o] a
  | .s i :: r, a, w => ∃ o, ops[i]? = some o ∧ wpList P ops (Solo G w (wpPlan2 P ops Q G r)) [o] a w
  | .b i j :: r, a, w => ∃ oi oj, ops[i]? = some oi ∧ ops[j]? = some oj ∧
      wpList P ops (Solo G w (fun a' w' => wpList P ops (Solo G w' (wpPlan2 P ops Q G r)) [oj] a' w')) [oi] a w ∧
      wpList P ops (Solo G w (fun a' w' => wpList P ops (Solo G w' (wpPlan2 P ops Q G r)) [oi] a' w')) [oj] a w

def planB2 (ops : Array Oper) : List Pl → Array Bool → Bool
  | [], listed => (Region.ready .any ops listed).isEmpty
  | .t i :: r, listed => (Region.ready .any ops listed).contains i && Region.free .any ops listed i && ((ops[i]?).map noCall).getD false && planB2 ops r (listed.setIfInBounds i true)
  | .s i :: r, listed => (Region.ready .any ops listed == [i]) && planB2 ops r (listed.setIfInBounds i true)
  | .b i j :: r, listed => (Region.ready .any ops listed == [i, j]) && (Region.ready .any ops (listed.setIfInBounds i true) == [j]) && (Region.ready .any ops (listed.setIfInBounds j true) == [i]) && (i != j) && planB2 ops r ((listed.setIfInBounds i true).setIfInBounds j true)

def planLen : List Pl → Nat
  | [] => 0
  | .b _ _ :: r => planLen r + 2
  | _ :: r => planLen r + 1

theorem plan2_take {i : Nat} {o : Oper} {r : List Pl} {a : Act} {w : World} (ho : ops[i]? = some o)
    (h : wpQuiet P ops (fun w' => ∃ p : Abv G w, w' = p.val) (fun a' => wpPlan2 P ops Q G r a' w) [o] a) : wpPlan2 P ops Q G (.t i :: r) a w := ⟨o, ho, h⟩
theorem plan2_solo {i : Nat} {o : Oper} {r : List Pl} {a : Act} {w : World} (ho : ops[i]? = some o)
    (h : wpList P ops (Solo G w (wpPlan2 P ops Q G r)) [o] a w) : wpPlan2 P ops Q G (.s i :: r) a w := ⟨o, ho, h⟩
theorem plan2_both {i j : Nat} {oi oj : Oper} {r : List Pl} {a : Act} {w : World} (hi : ops[i]? = some oi) (hj : ops[j]? = some oj)
    (h1 : wpList P ops (Solo G w (fun a' w' => wpList P ops (Solo G w' (wpPlan2 P ops Q G r)) [oj] a' w')) [oi] a w)
    (h2 : wpList P ops (Solo G w (fun a' w' => wpList P ops (Solo G w' (wpPlan2 P ops Q G r)) [oi] a' w')) [oj] a w) : wpPlan2 P ops Q G (.b i j :: r) a w := ⟨oi, oj, hi, hj, h1, h2⟩
theorem plan2_end {a : Act} {w : World} (h : Q .normal a w) : wpPlan2 P ops (OnlyN Q) G [] a w := h

/-- An operation that comes up: from its own walk to what 'wpAnyH' asks of it. -/
theorem op_sound {i : Nat} {o : Oper} {a : Act} {w : World} {K : Act → World → Prop} {K' : Act → World → Prop} (ho : ops[i]? = some o) (hK : ∀ a' w', Keeps G w w' → K a' w' → K' a' w')
    (hq : wpList P ops (Solo G w K) [o] a w) : wpOp P ops (OnlyN Q) i K' a w := by
  have go : ∀ a' w', Solo G w K .normal a' w' → K' a' w' := fun a' w' ⟨hb, hk⟩ => hK a' w' hb hk
  unfold wpOp
  simp only [ho]
  simp only [wpList] at hq
  split at hq
  · rename_i hw
    rw [if_pos hw]
    rcases hq with hq | ⟨_, x, y, hxy⟩
    · exact .inl (wp_all go (fun _ _ _ h => (h : False).elim) (fun _ _ h => (h : False).elim) hq)
    · exact (hxy : False).elim
  · rename_i hw
    rw [if_neg hw]
    exact go _ _ hq

theorem plan2_sound (hs : Region.noSelect ops = true) : ∀ (plan : List Pl) (fuel : Nat) (listed : Array Bool) (a : Act) (w : World), planLen plan ≤ fuel → planB2 ops plan listed = true → wpPlan2 P ops (OnlyN Q) G plan a w →
    wpAnyH P .any ops (OnlyN Q) (fun W => Keeps G w W) fuel listed a w
  | [], fuel, listed, a, w, _, hB, h => wpAnyH_done (by simpa [planB2] using hB) h fuel
  | .t i :: r, 0, _, _, _, hf, _, _ => by simp [planLen] at hf
  | .s i :: r, 0, _, _, _, hf, _, _ => by simp [planLen] at hf
  | .b i j :: r, 0, _, _, _, hf, _, _ => by simp [planLen] at hf
  | .b i j :: r, 1, _, _, _, hf, _, _ => by simp [planLen] at hf
  | .t i :: r, fuel + 1, listed, a, w, hf, hB, h => by
    obtain ⟨o, ho, hq⟩ := h
    simp only [planB2, Bool.and_eq_true, ho, Option.map_some, Option.getD_some] at hB
    obtain ⟨⟨⟨hr, hfr⟩, hn⟩, hB⟩ := hB
    have hlen : planLen r ≤ fuel := by simpa [planLen] using hf
    simp only [wpQuiet] at hq
    split at hq
    · rename_i hw
      obtain ⟨v, hv, hnext⟩ := hq
      exact wpAnyH_take ho hs hfr hr (fun _ _ _ h => h) (yields_of hn hw (fun W hW => rg_iff.2 hW) hv) (Keeps.refl _ _) (plan2_sound hs r fuel _ _ _ hlen hB hnext)
    · rename_i hw
      exact wpAnyH_take ho hs hfr hr (fun _ _ _ h => h) (.inr ⟨by simpa using hw, rfl⟩) (Keeps.refl _ _) (plan2_sound hs r fuel _ _ _ hlen hB hq)
  | .s i :: r, fuel + 1, listed, a, w, hf, hB, h => by
    obtain ⟨o, ho, hq⟩ := h
    simp only [planB2, Bool.and_eq_true, beq_iff_eq] at hB
    obtain ⟨hr, hB⟩ := hB
    have hlen : planLen r ≤ fuel := by simpa [planLen] using hf
    refine wpAnyH_all hr (by simp) fun k hk => ?_
    obtain rfl : k = i := by simpa using hk
    exact op_sound ho (fun a' w' hb hk' => ⟨hb, wpAnyH_weaken (fun W hW => hb.trans hW) _ _ _ _ (plan2_sound hs r fuel _ _ _ hlen hB hk')⟩) hq
  | .b i j :: r, fuel + 2, listed, a, w, hf, hB, h => by
    obtain ⟨oi, oj, hoi, hoj, h1, h2⟩ := h
    simp only [planB2, Bool.and_eq_true, beq_iff_eq, bne_iff_ne, ne_eq] at hB
    obtain ⟨⟨⟨⟨hr, hri⟩, hrj⟩, hne⟩, hB⟩ := hB
    have hlen : planLen r ≤ fuel := by simpa [planLen] using hf
    have hB' : planB2 ops r ((listed.setIfInBounds j true).setIfInBounds i true) = true := by rw [Array.setIfInBounds_comm _ _ (fun e => hne e.symm)]; exact hB
    refine wpAnyH_all hr (by simp) fun k hk => ?_
    have hk' : k = i ∨ k = j := by simpa using hk
    rcases hk' with rfl | rfl
    · refine op_sound hoi (fun a' w' hb hk' => ⟨hb, wpAnyH_weaken (fun W hW => hb.trans hW) _ _ _ _ ?_⟩) h1
      refine wpAnyH_all hri (by simp) fun m hm => ?_
      obtain rfl : m = j := by simpa using hm
      exact op_sound hoj (fun a'' w'' hb' hk'' => ⟨hb', wpAnyH_weaken (fun W hW => hb'.trans hW) _ _ _ _ (plan2_sound hs r fuel _ _ _ hlen hB hk'')⟩) hk'
    · refine op_sound hoj (fun a' w' hb hk' => ⟨hb, wpAnyH_weaken (fun W hW => hb.trans hW) _ _ _ _ ?_⟩) h2
      refine wpAnyH_all hrj (by simp) fun m hm => ?_
      obtain rfl : m = i := by simpa using hm
      exact op_sound hoi (fun a'' w'' hb' hk'' => ⟨hb', wpAnyH_weaken (fun W hW => hb'.trans hW) _ _ _ _ (plan2_sound hs r fuel _ _ _ hlen hB' hk'')⟩) hk'

/-- The region, by such a plan. -/
theorem wp_region_plan2 (G : Nat → Prop) {id : Nat} {a : Act} {w : World} (plan : List Pl) (hm : P.follows .mixedOrders = true) (hB : (Region.noSelect ops && (decide (planLen plan ≤ ops.size) && planB2 ops plan (Array.replicate ops.size false))) = true)
    (h : wpPlan2 P ops (OnlyN Q) G plan a w.drew) : (Code.region id ops true).wp P Q a w := by
  simp only [Bool.and_eq_true, decide_eq_true_eq] at hB
  obtain ⟨h1, h2, h3⟩ := hB
  exact Code.wp_mono OnlyN.imp (wp_region_held (S := fun W => Keeps G w.drew W) hm (plan2_sound h1 plan _ _ _ _ h2 h3 h))
end
end Go.Proofs.Ytoaemkbdfinaoaa
