/-
  Layer 22: rows that are requests; Put of a request.
-/
import Derived.Test.YtgogdgpdkkbfhaaTagsF
import Derived.Test.YtgogdgpdkkbfhaaAskIn
import Derived.Test.YtgogdgpdkkbfhaaRowK
namespace Go.Proofs.Ytgogdgpdkkbfhaa
open Go.RowKit
set_option linter.unusedVariables false
set_option linter.unusedSimpArgs false

/-- Kept by whatever leaves the blocks of its own type. -/
theorem Own.keepT {G : Nat → Prop} {w w' : World} {base : Nat} {e : TypeId} {size n : Nat} {v : Value} {xs : List Value} (h : Own w base e size v n xs) (k : Keeps G w w')
    (hG : ∀ b cur fz, base ≤ b → w.heap[b]? = some (.cells cur e fz) → ¬ G b) : Own w' base e size v n xs := by
  have hlt := h.lt
  refine ⟨h.1, ?_⟩
  rcases h.2 with h2 | ⟨g, cap, cur, fz, rfl, hbg, hh, r⟩
  · exact .inl h2
  · exact .inr ⟨g, cap, cur, fz, rfl, hbg, (k.block g (hlt g rfl).2 (hG g cur fz hbg hh)).trans hh, r⟩

/-- The cells r are the request x; its names and data lie from block lo on. -/
def AskRow (w : World) (lo : Nat) (r : List Value) (x : AskV) : Prop :=
  ∃ An nn cn Ad nd cd, r = askC x An nn cn Ad nd cd ∧ OwV w lo 9 An nn cn (sv x.names) ∧ OwB w lo Ad nd cd x.data
theorem AskRow.up {w w' : World} {lo : Nat} {r : List Value} {x : AskV} (h : AskRow w lo r x) (k : Below w.heap.size w w') : AskRow w' lo r x := by
  obtain ⟨An, nn, cn, Ad, nd, cd, e, h1, h2⟩ := h
  exact ⟨An, nn, cn, Ad, nd, cd, e, h1.up k, h2.up k⟩
theorem AskRow.lower {w : World} {lo lo' : Nat} {r : List Value} {x : AskV} (h : AskRow w lo r x) (k : lo' ≤ lo) : AskRow w lo' r x := by
  obtain ⟨An, nn, cn, Ad, nd, cd, e, h1, h2⟩ := h
  exact ⟨An, nn, cn, Ad, nd, cd, e, h1.lower k, h2.lower k⟩
theorem AskRow.keepT {G : Nat → Prop} {w w' : World} {lo : Nat} {r : List Value} {x : AskV} (h : AskRow w lo r x) (k : Keeps G w w')
    (hG : ∀ b cur fz t, lo ≤ b → w.heap[b]? = some (.cells cur t fz) → (t = 9 ∨ t = 5) → ¬ G b) : AskRow w' lo r x := by
  obtain ⟨An, nn, cn, Ad, nd, cd, e, h1, h2⟩ := h
  exact ⟨An, nn, cn, Ad, nd, cd, e, Own.keepT h1 k fun b cur fz hb hh => hG b cur fz _ hb hh (.inl rfl), Own.keepT h2 k fun b cur fz hb hh => hG b cur fz _ hb hh (.inr rfl)⟩
theorem AskRow.len {w : World} {lo : Nat} {r : List Value} {x : AskV} (h : AskRow w lo r x) : r.length = 14 := by
  obtain ⟨An, nn, cn, Ad, nd, cd, e, _⟩ := h
  rw [e]; rfl
theorem AskRow.one {w : World} {lo : Nat} {r : List Value} {x : AskV} (h : AskRow w lo r x) : ∀ v ∈ r, v.oneCell' = true := by
  obtain ⟨An, nn, cn, Ad, nd, cd, e, _⟩ := h
  rw [e]; exact askC_one x An nn cn Ad nd cd
theorem AskRow.tag {w : World} {lo : Nat} {r : List Value} {x : AskV} (h : AskRow w lo r x) : r[1]? = some (.int .i64 x.tag) := by
  obtain ⟨An, nn, cn, Ad, nd, cd, e, _⟩ := h
  rw [e]; rfl

/-- The first rows are the requests xs. -/
def Rws (w : World) (lo : Nat) (rs : List (List Value)) (xs : List AskV) : Prop := ∀ (j : Nat) (x : AskV), xs[j]? = some x → ∃ r, rs[j]? = some r ∧ AskRow w lo r x
theorem Rws.nil (w : World) (lo : Nat) (rs : List (List Value)) : Rws w lo rs [] := fun j x h => by simp at h
theorem Rws.up {w w' : World} {lo : Nat} {rs : List (List Value)} {xs : List AskV} (h : Rws w lo rs xs) (k : Below w.heap.size w w') : Rws w' lo rs xs := fun j x hx => by
  obtain ⟨r, hr, h1⟩ := h j x hx
  exact ⟨r, hr, h1.up k⟩
theorem Rws.keepT {G : Nat → Prop} {w w' : World} {lo : Nat} {rs : List (List Value)} {xs : List AskV} (h : Rws w lo rs xs) (k : Keeps G w w')
    (hG : ∀ b cur fz t, lo ≤ b → w.heap[b]? = some (.cells cur t fz) → (t = 9 ∨ t = 5) → ¬ G b) : Rws w' lo rs xs := fun j x hx => by
  obtain ⟨r, hr, h1⟩ := h j x hx
  exact ⟨r, hr, h1.keepT k hG⟩
theorem Rws.snoc {w : World} {lo : Nat} {rs : List (List Value)} {xs : List AskV} (h : Rws w lo rs xs) (hl : rs.length = xs.length) {r : List Value} {x : AskV} (hr : AskRow w lo r x) : Rws w lo (rs ++ [r]) (xs ++ [x]) := fun j y hy => by
  rcases Nat.lt_or_ge j xs.length with hj | hj
  · rw [List.getElem?_append_left hj] at hy
    obtain ⟨q, hq, h1⟩ := h j y hy
    exact ⟨q, by rw [List.getElem?_append_left (by omega)]; exact hq, h1⟩
  · rw [List.getElem?_append_right hj] at hy
    rw [List.getElem?_append_right (by omega), hl]
    have h0 : j - xs.length = 0 := by
      have := (List.getElem?_eq_some_iff.1 hy).1
      simp at this
      omega
    rw [h0] at hy ⊢
    obtain rfl : y = x := by simpa using hy.symm
    exact ⟨r, rfl, hr⟩
theorem Rws.set {w : World} {lo : Nat} {rs : List (List Value)} {xs : List AskV} (h : Rws w lo rs xs) (hl : xs.length < rs.length) {r : List Value} {x : AskV} (hr : AskRow w lo r x) : Rws w lo (rs.set xs.length r) (xs ++ [x]) := fun j y hy => by
  rcases Nat.lt_or_ge j xs.length with hj | hj
  · rw [List.getElem?_append_left hj] at hy
    obtain ⟨q, hq, h1⟩ := h j y hy
    exact ⟨q, by rw [List.getElem?_set_ne (by omega)]; exact hq, h1⟩
  · rw [List.getElem?_append_right hj] at hy
    have h0 : j - xs.length = 0 := by
      have := (List.getElem?_eq_some_iff.1 hy).1
      simp at this
      omega
    obtain rfl : j = xs.length := by omega
    rw [h0] at hy
    obtain rfl : y = x := by simpa using hy.symm
    exact ⟨r, by rw [List.getElem?_set_self hl], hr⟩
theorem Rws.erase {w : World} {lo : Nat} {rs rs' : List (List Value)} {xs : List AskV} {q k : Nat} (h : Rws w lo rs xs) (hx : xs.length = q + 1) (hk : k ≤ q) (he : rs'.take q = (rs.take (q + 1)).eraseIdx k) : Rws w lo rs' (xs.eraseIdx k) := fun j y hy => by
  have hl : (xs.eraseIdx k).length = q := by rw [List.length_eraseIdx, if_pos (by omega), hx]; omega
  have hj : j < q := by rw [← hl]; exact (List.getElem?_eq_some_iff.1 hy).1
  have hrow : rs'[j]? = ((rs.take (q + 1)).eraseIdx k)[j]? := by rw [← he, List.getElem?_take, if_pos hj]
  rw [List.getElem?_eraseIdx] at hy hrow
  by_cases hjk : j < k
  · rw [if_pos hjk] at hy hrow
    obtain ⟨r, hr, h1⟩ := h j y hy
    exact ⟨r, by rw [hrow, List.getElem?_take, if_pos (by omega)]; exact hr, h1⟩
  · rw [if_neg hjk] at hy hrow
    obtain ⟨r, hr, h1⟩ := h (j + 1) y hy
    exact ⟨r, by rw [hrow, List.getElem?_take, if_pos (by omega)]; exact hr, h1⟩

/-- Put of a request that may be put. -/
def PutRowPost (g : Nat) (rows : List (List Value)) (n most : Nat) (x : AskV) (w : World) (e : Ending) (w' : World) : Prop :=
  e = .returned (.int .i64 0) ∧ Keeps (Is g) w w' ∧ ∃ r, TG w' g (rows.set n r) (n + 1) most ∧ AskRow w' w.heap.size r x
theorem put_row (g : Nat) (rows : List (List Value)) (n most : Nat) (ts : List Int) (x : AskV) (An : Option Addr) (nn cn : Nat) (Ad : Option Addr) (nd cd : Nat) (w : World)
    (h : TG w g rows n most) (ht : TagsAre rows n ts) (hnot : x.tag ∉ ts) (hroom : n < most) (hN : RdV w w.heap.size An nn (sv x.names)) (hNn : x.names.length ≤ 8) (hD : RdB w w.heap.size Ad nd x.data) (hDn : x.data.length ≤ 30) :
    Calls Try.prog 10 #[.pointer (some ⟨g, 0, none⟩), .agg (askC x An nn cn Ad nd cd).toArray] w (PutRowPost g rows n most x w) := by
  have hn8 : nn ≤ 8 := by have := hN.len; rw [sv_length] at this; omega
  have hd30 : nd ≤ 30 := by have := hD.len; omega
  obtain ⟨q0, q1, q2, q3, q4, q5, q6, q7, q8, q9, q10, qn, qns, qd⟩ := x
  refine (put_any g rows n most ts q1 (.int .i64 q0) (.int .i64 q2) (.int .i64 q3) (.int .i64 q4) (.int .i64 q5) (.int .i64 q6) (.int .i64 q7) (.int .i64 q8) (.int .i64 q9) (.string (st qn)) (.int .i64 q10) An nn cn (sv qns) Ad nd cd qd w h ht (by simp [Value.oneCell']) hN (sv_one _) (by omega) hD (by omega)).mono ?_
  rintro e w' (⟨h1, h2, h3⟩ | ⟨h1, h2, h3, h4⟩ | ⟨h1, h2, rfl, Pn, pn, pc, pnm, Pd, pd, pe, pld, hpn, hpd, hPN, hPD, hT, hK⟩)
  · rw [placeL_none hnot] at h1; omega
  · omega
  · refine ⟨rfl, hK, _, hT, Pn, pn, pc, Pd, pd, pe, rfl, ?_, ?_⟩
    · have e := hpn.out; rw [e] at hPN; exact hPN
    · have e := hpd.out; rw [e] at hPD; exact hPD
end Go.Proofs.Ytgogdgpdkkbfhaa
