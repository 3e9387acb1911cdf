/-
  From what the row gives of a node's attributes to what the walks take.
-/
import Derived.Test.YtanafeeekofejaaRowIn
import Derived.OpenShut
import Derived.ChangeSame
namespace Go.Proofs.Ytanafeeekofejaa
open Go.RowKit Go.ChangeShapes Go.WideShapes Go.ChangeAt
set_option linter.unusedVariables false

theorem attr_in {H : Type} {enc : TypeId × Value → H} {w : World} {held : Bool} {cs : Array Value} {d : DataW H} {p : List MemPlace} (hsz : cs.size = 5)
    (h : DataW.Trod enc Try.prog w 0 (fun _ => true) held 34 (.agg cs) d p) :
    ∃ ino gen kind mode size : Int, cs = #[.int .i64 ino, .int .i64 gen, .int .i64 kind, .int .i64 mode, .int .i64 size] ∧ -9223372036854775808 ≤ mode ∧ mode ≤ 9223372036854775807 ∧ -9223372036854775808 ≤ kind ∧ kind ≤ 9223372036854775807 := by
  obtain ⟨l⟩ := cs
  match l, hsz with
  | [c0, c1, c2, c3, c4], _ =>
    obtain ⟨fuel, hf⟩ := h
    obtain ⟨xs, n, _, hx, _, hlen, hg⟩ := DataW.trod_struct Try.underlying34 hf
    have k2 : Try.prog.cellsOf 32 = 2 := by kernel_rfl
    have k1 : Try.prog.cellsOf 3 = 1 := by kernel_rfl
    match xs, hlen with
    | [y0, y1, y2, y3], _ =>
      have h0 := hg 0 _ rfl
      have h1 := hg 1 _ rfl
      have h2 := hg 2 _ rfl
      have h3 := hg 3 _ rfl
      simp [Value.cells, k1, k2] at h0 h1 h2 h3
      obtain ⟨kind, e1, _, w1⟩ := DataW.trod_int Try.underlying3 h1
      obtain ⟨mode, e2, _, w2⟩ := DataW.trod_int Try.underlying3 h2
      obtain ⟨size, e3, _, w3⟩ := DataW.trod_int Try.underlying3 h3
      obtain ⟨zs, m, _, hz, _, hzl, hzg⟩ := DataW.trod_struct Try.underlying32 h0
      match zs, hzl with
      | [z0, z1], _ =>
        have g0 := hzg 0 _ rfl
        have g1 := hzg 1 _ rfl
        simp [k1] at g0 g1
        obtain ⟨ino, e4, _, w4⟩ := DataW.trod_int Try.underlying3 g0
        obtain ⟨gen, e5, _, w5⟩ := DataW.trod_int Try.underlying3 g1
        simp at e1 e2 e3 e4 e5
        subst e1 e2 e3 e4 e5
        have b2 := i64_of_wf w2
        have b1 := i64_of_wf w1
        exact ⟨ino, gen, kind, mode, size, rfl, b2.1, b2.2, b1.1, b1.2⟩
end Go.Proofs.Ytanafeeekofejaa
