/-
  Layer 11: directories in a law's world; the document's example.
-/
import Derived.Test.YtoaemkbdfinaoaaDirJ
namespace Go.Proofs.Ytoaemkbdfinaoaa
open Go.RowKit
set_option linter.unusedVariables false
set_option linter.unusedSimpArgs false

/-- A directory made since w0. -/
structure DrIn (w0 w : World) (g : Nat) (A : Option Addr) (n c : Nat) (es : List EntI) : Prop where
  d : Dr w g A n c es
  g0 : w0.heap.size ≤ g
  a0 : ∀ b, InBlk A b → w0.heap.size ≤ b
  b : Below w0.heap.size w0 w
theorem DrIn.new {w0 w w' : World} (h : Dr w' w.heap.size none 0 0 []) (hb : Below w0.heap.size w0 w) (k : Below w.heap.size w w') : DrIn w0 w' w.heap.size none 0 0 [] :=
  ⟨h, hb.size, fun b e => (by cases e), Up.trans' hb k⟩
theorem DrIn.up {w0 w w' : World} {g : Nat} {A : Option Addr} {n c : Nat} {es : List EntI} (h : DrIn w0 w g A n c es) (k : Below w.heap.size w w') : DrIn w0 w' g A n c es := ⟨h.d.up k, h.g0, h.a0, Up.trans' h.b k⟩
theorem DrIn.kb {w0 w w' : World} {g : Nat} {A : Option Addr} {n c : Nat} {es : List EntI} (h : DrIn w0 w g A n c es) (k : Keeps (DrG g A) w w') : Below w0.heap.size w w' :=
  k.under h.b.size (fun j hj e => by
    rcases e with e | e
    · have := h.g0; omega
    · have := h.a0 j e; omega)
theorem DrIn.post {w0 w w' : World} {g : Nat} {A : Option Addr} {n c : Nat} {es es' : List EntI} (h : DrIn w0 w g A n c es) (p : DrPost g A es' w w') : ∃ A' n' c', DrIn w0 w' g A' n' c' es' ∧ Keeps (DrG g A) w w' ∧ (A' = A ∨ ∃ b, A' = some ⟨b, 0, none⟩ ∧ w.heap.size ≤ b) := by
  obtain ⟨A', n', c', hd, hk, hf⟩ := p
  refine ⟨A', n', c', ⟨hd, h.g0, fun b hb => ?_, h.b.trans (h.kb hk)⟩, hk, hf⟩
  rcases hf with rfl | ⟨b', rfl, hb'⟩
  · exact h.a0 b hb
  · have : b' = b := by simpa [InBlk] using hb
    have := h.b.size
    omega
/-- Another directory stands. -/
theorem Dr.other {w w' : World} {g1 g2 : Nat} {A1 A2 : Option Addr} {n1 c1 n2 c2 : Nat} {es1 es2 : List EntI} (h2 : Dr w g2 A2 n2 c2 es2) (h1 : Dr w g1 A1 n1 c1 es1) (k : Keeps (DrG g1 A1) w w') (hg : g1 ≠ g2) (hA : ∀ b, InBlk A1 b → ¬ InBlk A2 b) : Dr w' g2 A2 n2 c2 es2 := by
  refine ⟨h2.b.keeps k (fun e => ?_), Own.keepGI h2.o k (fun b hb e => ?_), h2.s⟩
  · rcases e with e | e
    · exact hg e.symm
    · exact h1.o.ne h2.b (by decide) e
  · rcases e with e | e
    · subst e; exact h2.o.ne h1.b (by decide) hb
    · exact hA b e hb

set_option maxHeartbeats 4000000 in
theorem lives11_any (w : World) : Calls Try.prog 15 #[] w fun e w' => e = .returned (.bool true) ∧ Below w.heap.size w w' := by
  go_enter Try.func15, Try.ntmps15
  go_wp2_with fail
  refine (new_any _).mono ?_
  rintro e w1 ⟨rfl, hd, hb1⟩
  have H1 := Lib.hid (DrIn.new hd (Below.refl _ _) hb1)
  clear hd hb1
  go_wp2_with fail
  refine (put_any w.heap.size none 0 0 [] [98] 1 0 _ H1.out.d (by omega) (by simp)).mono ?_
  rintro e w2 ⟨rfl, hp⟩
  obtain ⟨A2, n2, c2, h2, _, _⟩ := H1.out.post hp
  rw [show putE [] [98] 1 0 = ([([98], 1, 0)], 0) by decide] at h2 ⊢
  have H2 := Lib.hid h2
  have hn2 : n2 ≤ 1000 := by have := h2.d.len; simp at this; omega
  clear hp h2
  go_wp2_with fail
  refine (put_any w.heap.size A2 n2 c2 [([98], 1, 0)] [97] 2 0 _ H2.out.d hn2 (by simp)).mono ?_
  rintro e w3 ⟨rfl, hp⟩
  obtain ⟨A3, n3, c3, h3, _, _⟩ := H2.out.post hp
  rw [show putE [([98], 1, 0)] [97] 2 0 = ([([97], 2, 0), ([98], 1, 0)], 0) by decide] at h3 ⊢
  have H3 := Lib.hid h3
  have hn3 : n3 ≤ 1000 := by have := h3.d.len; simp at this; omega
  clear hp h3
  go_wp2_with fail
  refine (page_any w.heap.size A3 n3 c3 [([97], 2, 0), ([98], 1, 0)] 0 1 _ H3.out.d hn3).mono ?_
  rintro e w4 ⟨A4, n4, c4, rfl, ho4, hb4⟩
  rw [show pageE [([97], 2, 0), ([98], 1, 0)] 0 1 = ([([97], 2, 0)], false, 0) by decide] at ho4 ⊢
  have HR4 := Lib.hid ho4.rd
  have hn4 : n4 = 1 := by have := ho4.len; simp at this; omega
  have HB4 := Lib.hid (Up.trans' H3.out.b hb4)
  subst hn4
  clear ho4 hb4
  have hbb : Below w4.heap.size w4 (w4.alloc (.cells #[.string ⟨#[97]⟩, .int .i64 2, .int .i64 0] 42)) := (Below.refl _ _).alloc (Nat.le_refl _) _
  have HR5 := Lib.hid ((HR4.out.below hbb).more hbb.size)
  have HV := Lib.hid (show RdR (w4.alloc (.cells #[.string ⟨#[97]⟩, .int .i64 2, .int .i64 0] 42)) (w4.alloc (.cells #[.string ⟨#[97]⟩, .int .i64 2, .int .i64 0] 42)).heap.size 3 (some ⟨w4.heap.size, 0, none⟩) 1 ([(([97], 2, 0) : EntI)].map eiC) from
    ⟨eiC_len _, rfl, fun _ => ⟨w4.heap.size, 0, rfl, by simp, fun i j r v hr hv => by
      have hi : i = 0 := by
        cases i with
        | zero => rfl
        | succ i => simp at hr
      subst hi
      simp at hr
      subst hr
      have := (Blk.new w4 42 (eiC ([97], 2, 0))).cell j v hv
      rw [Nat.zero_mul, Nat.zero_add]
      exact this⟩⟩)
  have Hbb := Lib.hid hbb
  clear hbb
  go_wp2_with fail
  refine (same11_any A4 (some ⟨w4.heap.size, 0, none⟩) 1 1 c4 1 [([97], 2, 0)] [([97], 2, 0)] _ HR5.out HV.out (by omega)).mono ?_
  rintro e w5 ⟨rfl, hb5⟩
  rw [show (decide (([([97], 2, 0)] : List EntI) = [([97], 2, 0)])) = true by decide]
  go_wp2
  go_ret
  exact ⟨rfl, Up.trans' (Up.trans' HB4.out Hbb.out) hb5⟩
end Go.Proofs.Ytoaemkbdfinaoaa
