/-
  Layer 11: a range that may be left; rows that are written into.
-/
import Derived.Test.YtoaemkbdfinaoaaLawDPages
import Derived.Test.YtoaemkbdfinaoaaDirN
namespace Go.Proofs.Ytoaemkbdfinaoaa
open Go.RowKit
set_option linter.unusedVariables false
set_option linter.unusedSimpArgs false

/-- wpIn_rangeFunc_ownH, what is told of a round's activation told of the one that stands. -/
theorem rangeH_act {F : Fence} {n : Nat} {P : Program} {w : World} {α : Type} {g : Operand} {ps : Array Tmp} {assign body : Code} {Q : Exit → Act → World → Prop} {a : Act}
    (hro : F.round = none) (h1 : 1 ≤ n) {gf : Nat} {lb : Array Value} (hg : a.eval g = .func (.func gf) #[] lb) (hFg : F.fn gf) (eg : ∀ args w, (callFunc gf args).run P w = .ok (.enter gf args) w)
    {encs : α → Array Value} {Kp : World → World → Prop} {S Sp : List α → Prop} {N : Nat} {w0 : World} (hseq : SeqStopsK F (n - 1) P gf lb encs Kp S Sp N w0)
    (hKt : ∀ {A B C : World}, Kp A B → Kp B C → Kp A C) (hKb : ∀ (W : World) (l : Nat) (o o' : Obj), w.heap.size ≤ l → W.heap[l]? = some o → o.isCells = false → o.isWalk = false → Kp W (W.putObj l o')) (hb0 : Below w0.heap.size w0 w) (hps : ∀ x, (encs x).size = ps.size)
    (I : List α → World → Prop) (Ix : Code → List α → World → Prop) (hI : OwnFrom w.heap.size I) (hIx : ∀ c, OwnFrom w.heap.size (Ix c)) (h0 : I [] w) (Ax : Act → α → Act → World → Prop) (hAx : ∀ a x a', OwnFrom w.heap.size (fun (_ : Unit) W => Ax a x a' W))
    (hassign : ∀ (l : Nat) (pre : List α) (x : α) (W : World) (K : Act → World → Prop), I pre W → (∀ a' W', KeepsFrom w.heap.size W W' → Kp W W' → I pre W' → Ax a x a' W' → K a' W') →
      assign.wpIn (F.inRound l) (n - 1 - 1) P (Exit.then K (fun _ _ _ => False)) { tmps := (ps.zip (encs x)).foldl (fun t (p, v) => t.setIfInBounds p v) a.tmps, defers := [] } W)
    (hbody : ∀ (l : Nat) (pre : List α) (x : α) (a' : Act) (W : World), w.heap.size ≤ l → (∃ r, W.heap[l]? = some (.loop r)) → I pre W → Ax a x a' W → pre.length < N → body.wpIn (F.inRound l) (n - 1 - 1) P (ownPostG w.heap.size Kp I Ix (pre ++ [x]) W) a' W)
    (hdone : ∀ (D : Nat) (xs : List α) (W : World), w.heap.size ≤ D → S xs → I xs W → W.heap[D]? = some (.deferred (some [])) → Q .normal { a with defers := { target := .collected D, args := #[] } :: a.defers } W)
    (hstop : ∀ (D : Nat) (c : Code) (pre : List α) (W : World), w.heap.size ≤ D → Sp pre → Ix c pre W → W.heap[D]? = some (.deferred (some [])) → c.wpIn F n P Q { a with defers := { target := .collected D, args := #[] } :: a.defers } W) :
    (Code.rangeFunc g ps assign body).wpIn F n P Q a w :=
  wpIn_rangeFunc_ownH hro h1 hg hFg eg hseq hKt hKb hb0 hps I Ix hI hIx h0 (Ax a) (hAx a) hassign hbody hdone hstop
/-- What stands behind a block's range, however it was left. -/
theorem range_left {P : Program} {a : Act} {w : World} {id : Nat} {K : Act → World → Prop} {Q : Exit → Act → World → Prop} {c : Code} (Φ : World → Prop)
    (h : c.wp P (fun e a' W' => (e = .normal ∨ e = .exit id) ∧ ∃ D, w.heap.size ≤ D ∧ Φ W' ∧ W'.heap[D]? = some (.deferred (some [])) ∧ a' = { a with defers := { target := .collected D, args := #[] } :: a.defers }) a w)
    (hk : ∀ D W', w.heap.size ≤ D → Φ W' → W'.heap[D]? = some (.deferred (some [])) → K { a with defers := { target := .collected D, args := #[] } :: a.defers } W') :
    c.wp P (Exit.inBlock id (Exit.then K Q)) a w := by
  refine Code.wp_mono ?_ h
  rintro e a' W' ⟨he, D, hD, hp, hd, rfl⟩
  rcases he with rfl | rfl
  · exact hk D W' hD hp hd
  · show (if id = id then _ else _)
    rw [if_pos rfl]
    exact hk D W' hD hp hd
theorem Row.set {w : World} {g : Nat} {t : TypeId} {cs : List Value} (h : Row w g t cs) (i : Nat) (u : Value) : Row (w.setCell ⟨g, i, none⟩ u) g t (cs.set i u) := by
  obtain ⟨fz, h, hf⟩ := h
  refine ⟨fz, ?_, by simpa using hf⟩
  simp [World.setCell, Array.getElem?_modify, h]
/-- A range's round has the name and the handle, the handle in a block of its own. -/
def StAx (L : Nat) (a : Act) (x : EntI) (a' : Act) (W : World) : Prop := ∃ Bx, L < Bx ∧ Blk W Bx 31 [.int .i64 x.2.1, .int .i64 x.2.2] ∧
  a' = { tmps := (((a.tmps.setIfInBounds 60 (.string (st x.1))).setIfInBounds 61 (.agg #[.int .i64 x.2.1, .int .i64 x.2.2])).setIfInBounds 11 (.string (st x.1))).setIfInBounds 12 (.pointer (some ⟨Bx, 0, none⟩)), defers := [] }
theorem stAx_own (L B : Nat) : ∀ a x a', OwnFrom B (fun (_ : Unit) W => StAx L a x a' W) := by
  rintro a x a' _ X Y row ⟨Bx, h1, h2, h3⟩ hg hr
  exact ⟨Bx, h1, h2.kept hg hr, h3⟩
end Go.Proofs.Ytoaemkbdfinaoaa
