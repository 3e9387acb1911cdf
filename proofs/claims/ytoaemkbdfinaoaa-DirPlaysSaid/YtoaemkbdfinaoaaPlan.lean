/-
  A region that draws its order, walked once, in an order that a Bool holds good: what only reads is taken as soon as it may come up; a call, or whatever makes memory, when nothing else may come up.
-/
import Derived.Test.YtoaemkbdfinaoaaBase
import Derived.Below
import Derived.Deep.RegionHeld3
import Derived.BigQuiet
namespace Go.Proofs.Ytoaemkbdfinaoaa
open Go.RowKit
set_option linter.unusedVariables false

/-- From w to W: nothing that was there has turned, but the blocks of G. -/
structure Keeps (G : Nat → Prop) (w W : World) : Prop where
  os : W.os = w.os
  tape : W.tape = w.tape
  output : W.output = w.output
  size : w.heap.size ≤ W.heap.size
  block : ∀ k, k < w.heap.size → ¬ G k → W.heap[k]? = w.heap[k]?
def NoG : Nat → Prop := fun _ => False
theorem Keeps.refl (G : Nat → Prop) (w : World) : Keeps G w w := ⟨rfl, rfl, rfl, Nat.le_refl _, fun _ _ _ => rfl⟩
theorem Keeps.trans {G : Nat → Prop} {a b c : World} (h : Keeps G a b) (k : Keeps G b c) : Keeps G a c :=
  ⟨k.os.trans h.os, k.tape.trans h.tape, k.output.trans h.output, Nat.le_trans h.size k.size, fun i hi hn => (k.block i (Nat.lt_of_lt_of_le hi h.size) hn).trans (h.block i hi hn)⟩
theorem Keeps.of_below {G : Nat → Prop} {w W : World} (h : Below w.heap.size w W) : Keeps G w W := ⟨h.os, h.tape, h.output, h.size, fun k hk _ => h.block k hk⟩
theorem Keeps.below {w W : World} (h : Keeps NoG w W) : Below w.heap.size w W := ⟨h.os, h.tape, h.output, h.size, fun k hk => h.block k hk id⟩
theorem Keeps.of_grown {G : Nat → Prop} {w W : World} {row : Option Nat} (h : w.grownBy W row) (hG : ∀ g, row = some g → G g) : Keeps G w W :=
  ⟨h.os, h.tape, h.output, h.size, fun k hk hn => h.block k hk (fun e => hn (hG k e.symm))⟩
/-- The worlds to which w may have gone. -/
structure Abv (G : Nat → Prop) (w : World) where
  val : World
  keeps : Keeps G w val
instance (G : Nat → Prop) (w : World) : Inhabited (Abv G w) := ⟨⟨w, Keeps.refl G w⟩⟩
theorem Abv.below {w : World} (p : Abv NoG w) : Below w.heap.size w p.val := p.keeps.below

section
variable {P : Program} {ops : Array Oper} {Q : Exit → Act → World → Prop} {G : Nat → Prop}

/-- The post at the region's end alone. -/
def OnlyN (Q : Exit → Act → World → Prop) : Exit → Act → World → Prop
  | .normal, a, w => Q .normal a w
  | _, _, _ => False
theorem OnlyN.imp : ∀ (e : Exit) (a : Act) (w : World), OnlyN Q e a w → Q e a w := fun e a w h => by
  cases e <;> first | exact h | exact (h : False).elim

/-- Behind an operation that came up alone: what was there is as it was, and the rest. -/
def Solo (G : Nat → Prop) (w : World) (K : Act → World → Prop) : Exit → Act → World → Prop
  | .normal, a, w' => Keeps G w w' ∧ K a w'
  | _, _, _ => False
theorem Solo.mk {w w' : World} {K : Act → World → Prop} {a : Act} (h : Keeps G w w') (k : K a w') : Solo G w K .normal a w' := ⟨h, k⟩
theorem Solo.up {w w' : World} {K : Act → World → Prop} {a : Act} (h : Below w.heap.size w w') (k : K a w') : Solo G w K .normal a w' := ⟨.of_below h, k⟩

def wpPlan (P : Program) (ops : Array Oper) (Q : Exit → Act → World → Prop) (G : Nat → Prop) : List (Nat × Bool) → Act → World → Prop
  | [], a, w => Q .normal a w
  | (i, false) :: r, a, w => ∃ o, ops[i]? = some o ∧ wpQuiet P ops (fun w' => ∃ p : Abv G w, w' = p.val) (fun a' => wpPlan P ops Q G r a' w) [o] a
  | (i, true) :: r, a, w => ∃ o, ops[i]? = some o ∧ wpList P ops (Solo G w (wpPlan P ops Q G r)) [o] a w

/-- Not a call of a Go function, and nothing rare. -/
def noCall (o : Oper) : Bool :=
  match o.op with
  | .call c => (match c.callee with | .builtin .len => true | .builtin .cap => true | .builtin .min => true | .builtin .max => true | _ => false)
  | .move _ | .assign _ | .pick .. | .load .. | .nilCheck _ | .binOp .. | .unOp .. | .convert .. | .slice .. | .fieldAddr .. | .field .. | .indexAddr .. | .index .. | .extract .. | .makeInterface .. | .lookup .. => true
  | _ => false

def planB (ops : Array Oper) : List (Nat × Bool) → Array Bool → Bool
  | [], listed => (Region.ready .any ops listed).isEmpty
  | (i, false) :: r, listed => (Region.ready .any ops listed).contains i && Region.free .any ops listed i && ((ops[i]?).map noCall).getD false && planB ops r (listed.setIfInBounds i true)
  | (i, true) :: r, listed => (Region.ready .any ops listed == [i]) && planB ops r (listed.setIfInBounds i true)

theorem plan_take {i : Nat} {o : Oper} {r : List (Nat × Bool)} {a : Act} {w : World} (ho : ops[i]? = some o)
    (h : wpQuiet P ops (fun w' => ∃ p : Abv G w, w' = p.val) (fun a' => wpPlan P ops Q G r a' w) [o] a) : wpPlan P ops Q G ((i, false) :: r) a w := ⟨o, ho, h⟩
theorem plan_solo {i : Nat} {o : Oper} {r : List (Nat × Bool)} {a : Act} {w : World} (ho : ops[i]? = some o)
    (h : wpList P ops (Solo G w (wpPlan P ops Q G r)) [o] a w) : wpPlan P ops Q G ((i, true) :: r) a w := ⟨o, ho, h⟩
theorem plan_end {a : Act} {w : World} (h : Q .normal a w) : wpPlan P ops (OnlyN Q) G [] a w := h

theorem wpAnyH_weaken {S S' : World → Prop} {md : Region.Mode} (hS : ∀ w, S' w → S w) : ∀ (fuel : Nat) (listed : Array Bool) (a : Act) (w : World), wpAnyH P md ops Q S' fuel listed a w → wpAnyH P md ops Q S fuel listed a w
  | 0, _, _, _, h => h
  | fuel + 1, _, _, _, h => ⟨h.1, fun i hi => wpOp_mono (fun a' w' h' => ⟨hS _ h'.1, wpAnyH_weaken hS fuel _ a' w' h'.2⟩) (h.2 i hi)⟩

/-- It hands on a value alone. -/
def NE (P : Program) (s : Sem Next) : Prop := ∀ w n w', s.run P w = .ok n w' → ∃ v, n = .value v
theorem NE.bind {α : Type} {s : Sem α} {k : α → Sem Next} (h : ∀ x, NE P (k x)) : NE P (s >>= k) := by
  intro w n w' e
  rw [Sem.run_bind] at e
  cases hs : s.run P w with
  | ok v w1 => rw [hs] at e; exact h v _ _ _ e
  | halt x w1 => rw [hs] at e; simp [Result.andThen] at e
theorem NE.value (v : Value) : NE P (pure (.value v)) := by intro w n w' e; simp at e; exact ⟨v, e.1.symm⟩
theorem NE.halt (x : Halt) : NE P (Sem.halt x) := by intro w n w' e; simp [Sem.run] at e
theorem NE.nil : NE P (runtimePanic .nilDeref) := NE.bind fun p => NE.halt _

theorem noEnter {o : Oper} {ρ : Operand → Value} (hn : noCall o = true) : NE P (execOp ρ o) := by
  obtain ⟨dst, op, ty, pos, after, guard⟩ := o
  cases op <;> try (simp only [noCall, Bool.false_eq_true] at hn; done)
  case call c =>
    obtain ⟨callee, xs, ats⟩ := c
    cases callee with
    | builtin b =>
      cases b <;> simp only [noCall, Bool.false_eq_true] at hn <;>
        (simp only [execOp]
         intro w n w' h
         simp only [resolve, invoke, builtin, Sem.run_bind, Sem.run_pure, Result.andThen_ok] at h
         cases hs : Sem.run P _ w with
         | ok v w1 => rw [hs] at h; simp at h; exact ⟨_, h.1.symm⟩
         | halt x w1 => rw [hs] at h; simp [Result.andThen] at h)
    | value x => simp [noCall] at hn
    | invoke x y => simp [noCall] at hn
  case move x => exact NE.value _
  case assign x => exact NE.value _
  case nilCheck x =>
    simp only [execOp]
    split
    · exact NE.nil
    · exact NE.nil
    · exact NE.nil
    · split
      · exact NE.nil
      · refine NE.bind fun p => NE.bind fun b => ?_
        split
        · exact NE.halt _
        · exact NE.value _
      · exact NE.value _
    · exact NE.value _
  all_goals exact NE.bind fun _ => NE.value _

/-- What a quiet operation yields, in every world above. -/
theorem yields_of {S : World → Prop} {o : Oper} {a : Act} {v : Value} {C : World → Prop} (hn : noCall o = true) (hw : Region.wanted o (yielded ops a.tmps) = true) (hSC : ∀ w, S w → C w) (h : ∀ w, C w → o.quietAt P a C w v)
    : YieldsIf P ops S o v a := by
  refine .inl ⟨hw, fun w hS => ?_⟩
  have h1 := h w (hSC w hS)
  have h2 := noEnter (P := P) (ρ := a.eval) hn w
  unfold Oper.quietAt at h1
  generalize (execOp a.eval o).run P w = r at h1 h2
  cases r with
  | ok n w' =>
    obtain ⟨u, rfl⟩ := h2 n w' rfl
    obtain ⟨rfl, rfl⟩ := h1
    rfl
  | halt x w' => exact False.elim h1

theorem rg_iff {w W : World} : (∃ p : Abv G w, W = p.val) ↔ Keeps G w W :=
  ⟨fun ⟨p, hp⟩ => by rw [hp]; exact p.keeps, fun h => ⟨⟨W, h⟩, rfl⟩⟩

theorem wp_all {o : Oper} {a : Act} {w : World} {K K' : Act → World → Prop} {Q Q' : Exit → Act → World → Prop} (hK : ∀ a w, K a w → K' a w) (hQ : ∀ c a w, Q (.panic c) a w → Q' (.panic c) a w) (hO : ∀ a w, Q .outgrown a w → Q' .outgrown a w)
    (h : o.wp P a w K Q) : o.wp P a w K' Q' := by
  unfold Oper.wp at *
  generalize (execOp a.eval o).run P w = r at *
  cases r with
  | ok n w' =>
    cases n <;> simp only [Oper.upon] at h ⊢ <;>
      first
        | exact hK _ _ h
        | exact Calls.mono h (fun e w'' he => by
            cases e
            · exact hK _ _ he
            · exact hQ _ _ _ he
            · obtain ⟨x, y, hxy⟩ := he; exact ⟨x, y, hO _ _ hxy⟩)
        | exact Rows.mono h (fun _ _ he => hK _ _ he)
  | halt x w' => cases x <;> simp only [Oper.upon] at h ⊢ <;> first | exact hQ _ _ _ h | exact h

theorem plan_sound (hs : Region.noSelect ops = true) : ∀ (plan : List (Nat × Bool)) (fuel : Nat) (listed : Array Bool) (a : Act) (w : World), plan.length ≤ fuel → planB ops plan listed = true → wpPlan P ops (OnlyN Q) G plan a w →
    wpAnyH P .any ops (OnlyN Q) (fun W => Keeps G w W) fuel listed a w
  | [], fuel, listed, a, w, _, hB, h => wpAnyH_done (by simpa [planB] using hB) h fuel
  | (i, false) :: r, 0, _, _, _, hf, _, _ => by simp at hf
  | (i, true) :: r, 0, _, _, _, hf, _, _ => by simp at hf
  | (i, false) :: r, fuel + 1, listed, a, w, hf, hB, h => by
    obtain ⟨o, ho, hq⟩ := h
    simp only [planB, Bool.and_eq_true, ho, Option.map_some, Option.getD_some] at hB
    obtain ⟨⟨⟨hr, hfr⟩, hn⟩, hB⟩ := hB
    have hlen : r.length ≤ fuel := by simpa using hf
    simp only [wpQuiet] at hq
    split at hq
    · rename_i hw
      obtain ⟨v, hv, hnext⟩ := hq
      exact wpAnyH_take ho hs hfr hr (fun _ _ _ h => h) (yields_of hn hw (fun W hW => rg_iff.2 hW) hv) (Keeps.refl _ _) (plan_sound hs r fuel _ _ _ hlen hB hnext)
    · rename_i hw
      exact wpAnyH_take ho hs hfr hr (fun _ _ _ h => h) (.inr ⟨by simpa using hw, rfl⟩) (Keeps.refl _ _) (plan_sound hs r fuel _ _ _ hlen hB hq)
  | (i, true) :: r, fuel + 1, listed, a, w, hf, hB, h => by
    obtain ⟨o, ho, hq⟩ := h
    simp only [planB, Bool.and_eq_true, beq_iff_eq] at hB
    obtain ⟨hr, hB⟩ := hB
    have hlen : r.length ≤ fuel := by simpa using hf
    have go : ∀ a' w', Solo G w (wpPlan P ops (OnlyN Q) G r) .normal a' w' → Keeps G w w' ∧ wpAnyH P .any ops (OnlyN Q) (fun W => Keeps G w W) fuel (listed.setIfInBounds i true) a' w' := fun a' w' ⟨hb, hk⟩ =>
      ⟨hb, wpAnyH_weaken (fun W hW => hb.trans hW) _ _ _ _ (plan_sound hs r fuel _ _ _ hlen hB hk)⟩
    refine wpAnyH_all hr (by simp) fun j hj => ?_
    obtain rfl : j = i := by simpa using hj
    unfold wpOp
    simp only [ho]
    simp only [wpList] at hq
    split at hq
    · rename_i hw
      rw [if_pos hw]
      rcases hq with hq | ⟨_, x, y, hxy⟩
      · exact .inl (wp_all go (fun _ _ _ h => (h : False).elim) (fun _ _ h => (h : False).elim) hq)
      · exact (hxy : False).elim
    · rename_i hw
      rw [if_neg hw]
      exact go _ _ hq

/-- The region, by a plan. -/
theorem wp_region_plan (G : Nat → Prop) {id : Nat} {a : Act} {w : World} (plan : List (Nat × Bool)) (hm : P.follows .mixedOrders = true) (hB : (Region.noSelect ops && (decide (plan.length ≤ ops.size) && planB ops plan (Array.replicate ops.size false))) = true)
    (h : wpPlan P ops (OnlyN Q) G plan a w.drew) : (Code.region id ops true).wp P Q a w := by
  simp only [Bool.and_eq_true, decide_eq_true_eq] at hB
  obtain ⟨h1, h2, h3⟩ := hB
  exact Code.wp_mono OnlyN.imp (wp_region_held (S := fun W => Keeps G w.drew W) hm (plan_sound h1 plan _ _ _ _ h2 h3 h))

end
end Go.Proofs.Ytoaemkbdfinaoaa
