/-
  Layer 5: the pipe's memory; New, more.
-/
import Derived.Test.YtojbehblgmpbgaaPipeP
import Derived.Test.YtojbehblgmpbgaaChan
import Derived.Test.YtojbehblgmpbgaaBlk
import Derived.Deep.CutBlock
namespace Go.Proofs.Ytojbehblgmpbgaa
open Go.RowKit Go.Conc
set_option linter.unusedVariables false
set_option linter.unusedSimpArgs false

/-- A row that reads as xs, in one of the blocks D. -/
def RdF (w : World) (D : Nat → Prop) (A : Option Addr) (n : Nat) (xs : List Value) : Prop := Reads w w.heap.size 1 A n xs ∧ (0 < n → ∃ ad, A = some ad ∧ D ad.block)
/-- A text. -/
def TextOk (w : World) (D : Nat → Prop) (v : Value) (l : List UInt8) : Prop := ∃ A n c, v = .slice A n c ∧ n ≤ c ∧ c ≤ maxLen ∧ RdF w D A n (bv l)
def TextsOk (w : World) (D : Nat → Prop) (vs : List Value) (T : List (List UInt8)) : Prop := vs.length = T.length ∧ ∀ (i : Nat) (v : Value) (l : List UInt8), vs[i]? = some v → T[i]? = some l → TextOk w D v l
/-- The pipe's own three blocks. -/
def Tri (g ct cr : Nat) : Nat → Prop := fun k => k = g ∨ k = ct ∨ k = cr

section
variable {w w' : World} {D D' G : Nat → Prop} {A : Option Addr} {n c : Nat} {xs : List Value} {vs : List Value} {T : List (List UInt8)} {v : Value} {l : List UInt8}
theorem RdF.keeps (h : RdF w D A n xs) (k : Keeps G w w') (hG : ∀ k, D k → ¬ G k) : RdF w' D A n xs := by
  refine ⟨⟨h.1.1, fun hn => ?_⟩, h.2⟩
  obtain ⟨ad, e, hb, hc⟩ := h.1.2 hn
  obtain ⟨ad', e', hd⟩ := h.2 hn
  obtain rfl : ad = ad' := by rw [e] at e'; injection e'
  exact ⟨ad, e, Nat.lt_of_lt_of_le hb k.size, fun j u hu => (World.cell?_of_block (by rw [block_of_add]; exact k.block _ hb (hG _ hd))).trans (hc j u hu)⟩
theorem RdF.mono (h : RdF w D A n xs) (hD : ∀ k, D k → D' k) : RdF w D' A n xs := ⟨h.1, fun hn => let ⟨ad, e, hd⟩ := h.2 hn; ⟨ad, e, hD _ hd⟩⟩
theorem RdF.nil : RdF w D A 0 [] := ⟨Reads.none_, fun h => absurd h (by omega)⟩
theorem RdF.cut (h : RdF w D A n (bv l)) {k : Nat} (hk : k ≤ n) (hc : n ≤ c) : RdF w D (if c = k then A else A.map (·.add k)) (n - k) (bv (l.drop k)) := by
  refine ⟨RdB.cut (l := l) h.1 hk hc, fun hn => ?_⟩
  obtain ⟨ad, rfl, hd⟩ := h.2 (by omega)
  rw [if_neg (by omega)]
  exact ⟨ad.add k, rfl, by rw [block_of_add]; exact hd⟩
theorem TextOk.keeps (h : TextOk w D v l) (k : Keeps G w w') (hG : ∀ k, D k → ¬ G k) : TextOk w' D v l :=
  let ⟨A, n, c, e, h1, h2, h3⟩ := h; ⟨A, n, c, e, h1, h2, h3.keeps k hG⟩
theorem TextOk.mono (h : TextOk w D v l) (hD : ∀ k, D k → D' k) : TextOk w D' v l :=
  let ⟨A, n, c, e, h1, h2, h3⟩ := h; ⟨A, n, c, e, h1, h2, h3.mono hD⟩
theorem TextsOk.keeps (h : TextsOk w D vs T) (k : Keeps G w w') (hG : ∀ k, D k → ¬ G k) : TextsOk w' D vs T := ⟨h.1, fun i v l h1 h2 => (h.2 i v l h1 h2).keeps k hG⟩
theorem TextsOk.mono (h : TextsOk w D vs T) (hD : ∀ k, D k → D' k) : TextsOk w D' vs T := ⟨h.1, fun i v l h1 h2 => (h.2 i v l h1 h2).mono hD⟩
theorem TextsOk.snoc (h : TextsOk w D vs T) (hv : TextOk w D v l) : TextsOk w D (vs ++ [v]) (T ++ [l]) := by
  refine ⟨by simp [h.1], fun i v' l' h1 h2 => ?_⟩
  rcases Nat.lt_or_ge i vs.length with hi | hi
  · rw [List.getElem?_append_left hi] at h1
    rw [List.getElem?_append_left (by rw [← h.1]; exact hi)] at h2
    exact h.2 i _ _ h1 h2
  · rw [List.getElem?_append_right hi] at h1
    rw [List.getElem?_append_right (by rw [← h.1]; exact hi)] at h2
    have hi0 : i - vs.length = 0 := by
      rcases Nat.eq_zero_or_pos (i - vs.length) with h' | h'
      · exact h'
      · rw [List.getElem?_eq_none (by simp; omega)] at h1; cases h1
    rw [hi0] at h1
    rw [← h.1, hi0] at h2
    simp at h1 h2
    subst h1; subst h2
    exact hv
theorem TextsOk.tail {t : List UInt8} {buf : Array Value} (h : TextsOk w D buf.toList (t :: T)) : 0 < buf.size ∧ TextOk w D (buf.getD 0 undef) t ∧ TextsOk w D (buf.extract 1 buf.size).toList T := by
  obtain ⟨vs⟩ := buf
  cases vs with
  | nil => have := h.1; simp at this
  | cons v vs =>
    refine ⟨by simp, ?_, ?_⟩
    · have := h.2 0 v t (by simp) (by simp)
      simpa [Array.getD] using this
    · have h2 : TextsOk w D vs T := ⟨by have := h.1; simpa using this, fun i v' l' h1 h3 => h.2 (i + 1) v' l' (by simpa using h1) (by simpa using h3)⟩
      simpa using h2
theorem Keeps.setChan (h : Keeps G w w') {c : Nat} (hc : G c ∨ w.heap.size ≤ c) (cap : Nat) (buf : Array Value) (cl : Bool) (s r : Nat) (tm : Bool) : Keeps G w (w'.setChan c cap buf cl s r tm) :=
  ⟨h.os, h.tape, h.output, by rw [size_setChan]; exact h.size, fun k hk hn => by
    rw [← h.block k hk hn]
    simp only [World.setChan]
    rw [Array.getElem?_setIfInBounds_ne]
    rintro rfl
    rcases hc with hc | hc
    · exact hn hc
    · omega⟩
end

/-- The pipe, at block g, its channels at ct and cr, its rows in the blocks D: the script, the place in it, what is left of the first text, the others, how many bytes it holds to be left. -/
structure PRaw (w : World) (g ct cr : Nat) (D : Nat → Prop) (ns : List Int) (at_ : Nat) (f : List UInt8) (T : List (List UInt8)) (left : Int) (A : Option Addr) (n c : Nat) (Af : Option Addr) (nf cf : Nat) (buf rb : Array Value) (s r s2 r2 : Nat) : Prop where
  blk : Blk w g 58 [.slice A n c, .int .i64 at_, .chan (some ct), .chan (some cr), .slice Af nf cf, .int .i64 left]
  ch : w.heap[ct]? = some (.chan 64 buf false s r false)
  rm : w.heap[cr]? = some (.chan 64 rb false s2 r2 false)
  ne : ct ≠ cr
  dlt : ∀ k, D k → k < w.heap.size
  dg : ¬ D g
  dc : ¬ D ct
  dr : ¬ D cr
  sz : RdF w D A n (iv ns)
  nc : n ≤ c
  fi : RdF w D Af nf (bv f)
  nfc : nf ≤ cf
  cfm : cf ≤ maxLen
  tx : TextsOk w D buf.toList T
  rsz : rb.size = (absL f T).length

section
variable {w w' : World} {g ct cr : Nat} {D G : Nat → Prop} {ns : List Int} {at_ : Nat} {f : List UInt8} {T : List (List UInt8)} {left : Int} {A : Option Addr} {n c : Nat} {Af : Option Addr} {nf cf : Nat} {buf rb : Array Value} {s r s2 r2 : Nat}
theorem lt_of_some {w : World} {k : Nat} {o : Obj} (h : w.heap[k]? = some o) : k < w.heap.size := by
  rcases Nat.lt_or_ge k w.heap.size with h' | h'
  · exact h'
  · rw [Array.getElem?_eq_none h'] at h; cases h
theorem PRaw.gt (h : PRaw w g ct cr D ns at_ f T left A n c Af nf cf buf rb s r s2 r2) : g ≠ ct ∧ g ≠ cr := by
  have hb := h.blk
  unfold Blk at hb
  refine ⟨?_, ?_⟩
  · rintro rfl; rw [h.ch] at hb; cases hb
  · rintro rfl; rw [h.rm] at hb; cases hb
theorem PRaw.keeps (h : PRaw w g ct cr D ns at_ f T left A n c Af nf cf buf rb s r s2 r2) (k : Keeps G w w') (h1 : ∀ k, Tri g ct cr k → ¬ G k) (h2 : ∀ k, D k → ¬ G k) : PRaw w' g ct cr D ns at_ f T left A n c Af nf cf buf rb s r s2 r2 where
  blk := h.blk.keeps k (h1 _ (.inl rfl))
  ch := (k.block _ (lt_of_some h.ch) (h1 _ (.inr (.inl rfl)))).trans h.ch
  rm := (k.block _ (lt_of_some h.rm) (h1 _ (.inr (.inr rfl)))).trans h.rm
  ne := h.ne
  dlt := fun i hi => Nat.lt_of_lt_of_le (h.dlt i hi) k.size
  dg := h.dg
  dc := h.dc
  dr := h.dr
  sz := h.sz.keeps k h2
  nc := h.nc
  fi := h.fi.keeps k h2
  nfc := h.nfc
  cfm := h.cfm
  tx := h.tx.keeps k h2
  rsz := h.rsz
theorem PRaw.data (h : PRaw w g ct cr D ns at_ f T left A n c Af nf cf buf rb s r s2 r2) : ∀ k, D k → ¬ Tri g ct cr k := fun k hk ht => by
  rcases ht with rfl | rfl | rfl
  · exact h.dg hk
  · exact h.dc hk
  · exact h.dr hk
theorem keeps_setCell (w : World) {g i : Nat} (u : Value) (hg : G g) : Keeps G w (w.setCell ⟨g, i, none⟩ u) := (Keeps.refl _ _).setCell (.inl hg) u
theorem keeps_setChan (w : World) {k : Nat} (hg : G k) (cap : Nat) (b : Array Value) (cl : Bool) (s r : Nat) (tm : Bool) : Keeps G w (w.setChan k cap b cl s r tm) := (Keeps.refl _ _).setChan (.inl hg) _ _ _ _ _ _
theorem Blk.setChan {t : TypeId} {cs : List Value} (h : Blk w g t cs) {k : Nat} (hk : k ≠ g) (cap : Nat) (b : Array Value) (cl : Bool) (s r : Nat) (tm : Bool) : Blk (w.setChan k cap b cl s r tm) g t cs := by
  unfold Blk at *
  simp only [World.setChan]
  rw [Array.getElem?_setIfInBounds_ne hk]
  exact h
end

/-- The pipe. -/
def PL (w : World) (g ct cr : Nat) (D : Nat → Prop) (ns : List Int) (at_ : Nat) (L : List (List UInt8)) : Prop :=
  ∃ f T A n c Af nf cf buf rb s r s2 r2, L = absL f T ∧ PRaw w g ct cr D ns at_ f T (total L) A n c Af nf cf buf rb s r s2 r2
theorem PL.keeps {w w' : World} {g ct cr : Nat} {D G : Nat → Prop} {ns : List Int} {at_ : Nat} {L : List (List UInt8)} (h : PL w g ct cr D ns at_ L) (k : Keeps G w w') (h1 : ∀ k, Tri g ct cr k → ¬ G k) (h2 : ∀ k, D k → ¬ G k) : PL w' g ct cr D ns at_ L := by
  obtain ⟨f, T, A, n, c, Af, nf, cf, buf, rb, s, r, s2, r2, e, h⟩ := h
  exact ⟨f, T, A, n, c, Af, nf, cf, buf, rb, s, r, s2, r2, e, h.keeps k h1 h2⟩
theorem PL.up {w w' : World} {g ct cr : Nat} {D : Nat → Prop} {ns : List Int} {at_ : Nat} {L : List (List UInt8)} (h : PL w g ct cr D ns at_ L) (k : Below w.heap.size w w') : PL w' g ct cr D ns at_ L := h.keeps (Keeps.of_below (G := NoG) k) (fun _ _ h => h) (fun _ _ h => h)
theorem PL.lt {w : World} {g ct cr : Nat} {D : Nat → Prop} {ns : List Int} {at_ : Nat} {L : List (List UInt8)} (h : PL w g ct cr D ns at_ L) : (∀ k, Tri g ct cr k → k < w.heap.size) ∧ ∀ k, D k → k < w.heap.size := by
  obtain ⟨f, T, A, n, c, Af, nf, cf, buf, rb, s, r, s2, r2, e, h⟩ := h
  refine ⟨fun k hk => ?_, h.dlt⟩
  rcases hk with rfl | rfl | rfl
  · exact h.blk.lt
  · exact lt_of_some h.ch
  · exact lt_of_some h.rm

/-- What more leaves. -/
def MorePost (g ct cr : Nat) (D : Nat → Prop) (ns : List Int) (at_ : Nat) (t : List UInt8) (T : List (List UInt8)) (left : Int) (w : World) (e : Ending) (w' : World) : Prop :=
  e = .returned (.bool true) ∧ Keeps (Tri g ct cr) w w' ∧ ∃ A n c Af nf cf buf rb s r s2 r2, PRaw w' g ct cr D ns at_ t T left A n c Af nf cf buf rb s r s2 r2

set_option maxHeartbeats 2000000 in
theorem more_any (w : World) (g ct cr : Nat) (D : Nat → Prop) (ns : List Int) (at_ : Nat) (t : List UInt8) (T : List (List UInt8)) (left : Int) (A : Option Addr) (n c : Nat) (Af : Option Addr) (nf cf : Nat) (buf rb : Array Value) (s r s2 r2 : Nat)
    (h : PRaw w g ct cr D ns at_ [] (t :: T) left A n c Af nf cf buf rb s r s2 r2) (ht : t ≠ []) :
    Calls Try.prog 28 #[.pointer (some ⟨g, 0, none⟩)] w (MorePost g ct cr D ns at_ t T left w) := by
  have k2 := h.blk.cell 2 _ rfl
  obtain ⟨hpos, ⟨A2, n2, c2, hv, hnc2, hc2m, hrd⟩, htl⟩ := h.tx.tail
  have H := Lib.hid h
  obtain ⟨hg1, hg2⟩ := h.gt
  have hfin : PRaw ((w.setChan ct 64 (buf.extract 1 buf.size) false s (r + 1) false).setCell ⟨g, 4, none⟩ (.slice A2 n2 c2)) g ct cr D ns at_ t T left A n c A2 n2 c2 (buf.extract 1 buf.size) rb s (r + 1) s2 r2 := by
    have hk : Keeps (Tri g ct cr) w ((w.setChan ct 64 (buf.extract 1 buf.size) false s (r + 1) false).setCell ⟨g, 4, none⟩ (.slice A2 n2 c2)) := (keeps_setChan w (.inr (.inl rfl)) _ _ _ _ _ _).setCell (.inl (.inl rfl)) _
    exact
      { blk := (h.blk.setChan hg1.symm _ _ _ _ _ _).set 4 _
        ch := (Below.heap_setCell _ _ _ _ hg1.symm).trans (heap_setChan w ct _ _ _ _ _ _ (lt_of_some h.ch))
        rm := (Below.heap_setCell _ _ _ _ hg2.symm).trans (by
          simp only [World.setChan]
          rw [Array.getElem?_setIfInBounds_ne h.ne]
          exact h.rm)
        ne := h.ne
        dlt := fun i hi => Nat.lt_of_lt_of_le (h.dlt i hi) hk.size
        dg := h.dg
        dc := h.dc
        dr := h.dr
        sz := h.sz.keeps hk h.data
        nc := h.nc
        fi := hrd.keeps hk h.data
        nfc := hnc2
        cfm := hc2m
        tx := htl.keeps hk h.data
        rsz := by rw [h.rsz]; simp [absL, ht] }
  have hkk : Keeps (Tri g ct cr) w ((w.setChan ct 64 (buf.extract 1 buf.size) false s (r + 1) false).setCell ⟨g, 4, none⟩ (.slice A2 n2 c2)) := (keeps_setChan w (.inr (.inl rfl)) _ _ _ _ _ _).setCell (.inl (.inl rfl)) _
  have HF := Lib.hid hfin
  have HK := Lib.hid hkk
  have hB1 := (h.blk.setChan (k := ct) hg1.symm 64 (buf.extract 1 buf.size) false s (r + 1) false)
  have k4 := hB1.cell 4 _ rfl
  have f4 := hB1.free 4
  have hch := h.ch
  clear h hfin hkk hrd htl hB1
  go_enter Try.func28, Try.ntmps28
  go_upto_region 2 with fail
  refine wp_region_commN 0 rfl ?_
  refine wpList_nil ⟨_, _, comm_sel_recv (c := ct) (z := .slice none 0 0) rfl rfl (by simp [go_sem, rcase]) hch hpos, ?_⟩
  rw [hv]
  simp only [List.drop, Act.put, List.setIfInBounds_toArray, List.set]
  go_wp2
  go_ret
  exact ⟨rfl, HK.out, _, _, _, _, _, _, _, _, _, _, _, _, HF.out⟩
end Go.Proofs.Ytojbehblgmpbgaa
