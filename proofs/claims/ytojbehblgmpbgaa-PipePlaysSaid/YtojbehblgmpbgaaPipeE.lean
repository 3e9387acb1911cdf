/-
  Layer 5: Drain.
-/
import Derived.Test.YtojbehblgmpbgaaPipeD
import Derived.Test.YtojbehblgmpbgaaPipeQ
import Derived.Test.YtojbehblgmpbgaaRowsL
namespace Go.Proofs.Ytojbehblgmpbgaa
open Go.RowKit Go.Conc
set_option linter.unusedVariables false
set_option linter.unusedSimpArgs false

/-- Numbers that a script may hold. -/
def Sizes (ns : List Int) : Prop := ns.length ≤ 1048576 ∧ ∀ z ∈ ns, 0 ≤ z ∧ z ≤ 9223372036854775807
theorem Sizes.at_ {ns : List Int} (h : Sizes ns) {i : Nat} (hi : i < ns.length) : ns[i]? = some (ns.getD i 0) ∧ 0 ≤ ns.getD i 0 ∧ ns.getD i 0 ≤ 9223372036854775807 := by
  have e : ns.getD i 0 = ns[i] := by rw [List.getD_eq_getElem?_getD, List.getElem?_eq_getElem hi]; rfl
  rw [e]
  exact ⟨List.getElem?_eq_getElem hi, h.2 _ (List.getElem_mem hi)⟩

/-- What Next leaves, in either case. -/
def NextAny (g ct cr : Nat) (D : Nat → Prop) (ns : List Int) (at_ : Nat) (L : List (List UInt8)) (w : World) (e : Ending) (w' : World) : Prop :=
  (L = [] ∧ e = .returned (.tuple #[.slice none 0 0, .bool false]) ∧ w' = w) ∨
  (0 < total L ∧ ∃ A' n' c' out, Hid (out = pieceOf ns at_ L) ∧ e = .returned (.tuple #[.slice A' n' c', .bool true]) ∧ OwB w' w.heap.size A' n' c' out ∧ PL w' g ct cr D ns (nextAt ns at_) (nextL ns at_ L) ∧ Keeps (Tri g ct cr) w w')
theorem next_both (g ct cr : Nat) (D : Nat → Prop) (ns : List Int) (at_ : Nat) (L : List (List UInt8)) (w : World) (h : PL w g ct cr D ns at_ L) (hL : GoodL L) (hns : Sizes ns) (hat : at_ < ns.length) :
    Calls Try.prog 12 #[.pointer (some ⟨g, 0, none⟩)] w (NextAny g ct cr D ns at_ L w) := by
  by_cases h0 : total L = 0
  · obtain rfl := hL.empty h0
    exact (next_none g ct cr D ns at_ w h).mono fun e w' ⟨he, hw⟩ => .inl ⟨rfl, he, hw.symm⟩
  · obtain ⟨h1, h2, h3⟩ := hns.at_ hat
    exact (next_any g ct cr D ns at_ L _ w h hL (by omega) h1 h2 h3 hns.1).mono fun e w' hp => .inr ⟨by omega, hp⟩

/-- What Drain leaves. -/
def DrainPost (g ct cr : Nat) (D : Nat → Prop) (ns : List Int) (P : List (List UInt8)) (w : World) (e : Ending) (w' : World) : Prop :=
  ∃ A n c ls at_, Hid (ls = P) ∧ e = .returned (.slice A n c) ∧ OwBL w' w.heap.size w.heap.size A n c ls ∧ PL w' g ct cr D ns at_ [] ∧ at_ < ns.length ∧ Keeps (Tri g ct cr) w w'

/-- The loop's relation. -/
def DrRel (w0 : World) (g ct cr : Nat) (D : Nat → Prop) (ns : List Int) (P : List (List UInt8)) (l b ok : Value) (wr : World) : Prop :=
  ∃ A n c ls at_ L, l = .slice A n c ∧ OwBL wr w0.heap.size w0.heap.size A n c ls ∧ PL wr g ct cr D ns at_ L ∧ GoodL L ∧ at_ < ns.length ∧ Keeps (Tri g ct cr) w0 wr ∧
    ((∃ f A4 n4 c4 p, b = .slice A4 n4 c4 ∧ ok = .bool true ∧ OwB wr w0.heap.size A4 n4 c4 p ∧ (∀ a b, A4 = some a → A = some b → a.block ≠ b.block) ∧ Hid (P = ls ++ p :: pieces f ns at_ L) ∧ Hid (Ends f ns at_ L)) ∨
     (ok = .bool false ∧ L = [] ∧ Hid (P = ls)))

set_option maxRecDepth 100000 in
set_option maxHeartbeats 4000000 in
theorem drain_any (g ct cr : Nat) (D : Nat → Prop) (ns : List Int) (at_ : Nat) (L : List (List UInt8)) (f : Nat) (w : World) (h : PL w g ct cr D ns at_ L) (hL : GoodL L) (hns : Sizes ns) (hat : at_ < ns.length) (hf : f ≤ 1000000) (hE : Ends f ns at_ L) :
    Calls Try.prog 22 #[.pointer (some ⟨g, 0, none⟩)] w (DrainPost g ct cr D ns (pieces f ns at_ L) w) := by
  have hlt := h.lt
  have hTl : ∀ i, w.heap.size ≤ i → ¬ Tri g ct cr i := fun i hi ht => by have := hlt.1 i ht; omega
  have hPl := pieces_len f ns at_ L
  obtain ⟨P, hP⟩ : ∃ P, P = pieces f ns at_ L := ⟨_, rfl⟩
  rw [← hP] at hPl ⊢
  have HP := Lib.hid hP
  have H := Lib.hid h
  have HL := Lib.hid hL
  have HNS := Lib.hid hns
  have HE := Lib.hid hE
  have HLT := Lib.hid hlt
  have HTL := Lib.hid hTl
  clear h hL hns hE hlt hTl hP
  go_enter Try.func22, Try.ntmps22
  go_wp2_with fail
  refine (next_both g ct cr D ns at_ L _ H.out HL.out HNS.out hat).mono ?_
  rintro e w1 hn1
  have hstart : ∃ b ok, e = .returned (.tuple #[b, ok]) ∧ DrRel w g ct cr D ns P (.slice none 0 0) b ok w1 := by
    rcases hn1 with ⟨rfl, rfl, rfl⟩ | ⟨h0, A', n', c', out, ho, rfl, hown, hpl, hk⟩
    · exact ⟨_, _, rfl, none, 0, 0, [], at_, [], rfl, OwBL.nil _ _ _, H.out, HL.out, hat, Keeps.refl _ _, .inr ⟨rfl, rfl, Lib.hid (by rw [HP.out, pieces_zero _ _ _ _ rfl])⟩⟩
    · refine ⟨_, _, rfl, none, 0, 0, [], _, _, rfl, OwBL.nil _ _ _, hpl, nextL_good HL.out, nextAt_lt _ (by omega), hk, .inl ?_⟩
      cases f with
      | zero => have := HE.out; simp [Ends] at this; omega
      | succ f =>
        refine ⟨f, A', n', c', out, rfl, rfl, hown, (fun a b _ h => by cases h), Lib.hid ?_, Lib.hid ?_⟩
        · rw [HP.out, ho.out, List.nil_append, pieces, if_neg (by omega)]
        · rcases HE.out with h | h
          · omega
          · exact h
  clear hn1
  obtain ⟨b, ok, rfl, hrel⟩ := hstart
  have HR := Lib.hid hrel
  clear hrel
  go_wp2
  go_loopw [3, 4, 5] (fun l b ok wr => DrRel w g ct cr D ns P l b ok wr) (fun l _ _ _ => P.length - slen l)
  case atStart => exact HR.out
  case round =>
    obtain ⟨A, n, c, ls, at', L', rfl, hls, hpl, hL', hat', hk, hor⟩ := hrel
    rcases hor with ⟨f', A4, n4, c4, p, rfl, rfl, hp, hap, hPe, hEn⟩ | ⟨rfl, rfl, hPe⟩
    · have hlen : n < P.length := by rw [hPe.out, List.length_append, hls.len]; simp
      have hlsl := hls.len
      have hsz := hk.size
      have hcp := hp.cap
      have HLS := Lib.hid hls
      have HPL := Lib.hid hpl
      have HLg := Lib.hid hL'
      have HK := Lib.hid hk
      have HPP := Lib.hid hp
      have HAP := Lib.hid hap
      clear hls hpl hL' hk hp hap
      go_wp2_with (first | fail | (at_builtin; go_must (refine wpList_appendBB rowsElem rfl (.tmp 17) (.tmp 19) rfl w.heap.size w.heap.size A n c ls rfl HLS.out A4 n4 c4 p HPP.out.rd hcp.1 hcp.2 (fun _ a b ha hb => HAP.out a b ha hb) (fun h0 a ha => (by obtain ⟨g', hg', hb', _⟩ := HPP.out.blk h0; rw [ha] at hg'; injection hg' with e; subst e; exact hb')) rfl (by omega) hsz ?_); intro A2 n2 c2 ls2 w2 hls2 hn2 hown2 hb2; simp only [Act.put, List.setIfInBounds_toArray, List.set_cons_succ, List.set_cons_zero]))
      have hpl2 := HPL.out.keeps (keeps_base hb2) (fun k hk h => by have := HLT.out.1 k hk; omega) (fun k hk h => by have := HLT.out.2 k hk; omega)
      have hk2 := HK.out.andBelow hb2
      refine (next_both g ct cr D ns at' L' _ hpl2 HLg.out HNS.out hat').mono ?_
      rintro e w3 hn3
      have hnext : ∃ b ok, e = .returned (.tuple #[b, ok]) ∧ DrRel w g ct cr D ns P (.slice A2 n2 c2) b ok w3 := by
        rcases hn3 with ⟨rfl, rfl, rfl⟩ | ⟨h0, A', n', c', out, ho, rfl, hown, hpl, hk⟩
        · exact ⟨_, _, rfl, A2, n2, c2, ls2, at', [], rfl, hown2, hpl2, HLg.out, hat', hk2, .inr ⟨rfl, rfl, Lib.hid (by rw [hPe.out, hls2.out, pieces_zero _ _ _ _ rfl])⟩⟩
        · refine ⟨_, _, rfl, A2, n2, c2, ls2, _, _, rfl, hown2.keeps hk HTL.out (Nat.le_refl _), hpl, nextL_good HLg.out, nextAt_lt _ (by omega), hk2.trans hk, .inl ?_⟩
          cases f' with
          | zero => have := hEn.out; simp [Ends] at this; omega
          | succ f' =>
            refine ⟨f', A', n', c', out, rfl, rfl, hown.lower hk2.size, ?_, Lib.hid ?_, Lib.hid ?_⟩
            · intro a b ha hb he
              have h1 := hown2.lt b hb
              subst ha
              have h2 := (Own.lt hown a.block rfl).1
              omega
            · rw [hPe.out, hls2.out, ho.out, pieces, if_neg (by omega)]
              simp
            · rcases hEn.out with h | h
              · omega
              · exact h
      clear hn3
      obtain ⟨b', ok', rfl, hrel⟩ := hnext
      have HR2 := Lib.hid hrel
      clear hrel hpl2 hk2 hown2 hb2
      go_wp2
      go_roundw
      case rel => exact HR2.out
      case measure => simp only [slen]; rw [hn2.out]; omega
    · go_wp2
      go_ret
      exact ⟨A, n, c, ls, at', Lib.hid hPe.out.symm, rfl, hls, hpl, hat', hk⟩
end Go.Proofs.Ytojbehblgmpbgaa
