/-
  Words for memory: slices that read as lists, rows that the call owns, bytes and strings.
  append, copy, make, conversions: one law for every source.
  Bytes: slices of bytes as lists, and the walk's laws for append, copy, make and conversions, each list under a name of its own.
  Slices of whatever elements of one cell (strings, slices, numbers): the walk's laws, each list under a name of its own.
  The references' small helpers: Around, Few.
  The references' helper Few.
  A region that draws its order, walked once, in an order that a Bool holds good: what only reads is taken as soon as it may come up; a call, or whatever makes memory, when nothing else may come up.
  A region by a plan, where two operations may come up at once: both rows.
  A region by a plan that parts: where two operations may come up at once, each row has a plan of its own.
  A block that is known whole: a struct behind a pointer.
  Bytes, more: copy, make, []byte(s), string(b) as steps of the walk.
  What the laws' walks share.
  Slices whose elements have several cells (structs): reading, owning, appending one.
  A whole struct loaded from a block that is known whole (the walker's own way through many cells costs the kernel too much).
  A region that draws its order: an operation, or a quiet call, that gives its value in every world that meets S may be taken first.
  A region by a plan that parts, in which a call that leaves the world as it was is taken first, too.
-/
import Derived.Handy
import Derived.WalkLawsBesides
import Derived.WalkSpells
import Derived.Lib.ConvBytes
import Derived.Lib.FrozenHead
import Derived.Lib.Hide
import Derived.Laws.BytesArg
import Derived.Deep.Draws
import Derived.Lib.AppendStr
import Derived.Test.YtoplkglnjgllnaaProg
import Derived.Below
import Derived.Deep.RegionHeld3
import Derived.BigQuiet
import Derived.Laws.CopyOwn
import Derived.WalkKit
import Derived.Deep.RegionWith
namespace Go.Proofs.Ytoplkglnjgllnaa
open Go.RowKit
set_option linter.unusedVariables false
set_option linter.unusedSimpArgs false

theorem block_of_add (a : Addr) (n : Nat) : (a.add n).block = a.block := by unfold Addr.add; split <;> rfl
theorem add_of_add (a : Addr) (i j : Nat) : (a.add i).add j = a.add (i + j) := by
  unfold Addr.add
  by_cases hi : i = 0 <;> by_cases hj : j = 0 <;> simp [hi, hj, Nat.add_assoc]
theorem add_plain (b o n : Nat) : (⟨b, o, none⟩ : Addr).add n = ⟨b, o + n, none⟩ := by
  unfold Addr.add; split
  · subst_vars; rfl
  · rfl
/-- The slice '.slice A n c' reads as the cells xs, and lies below block B. -/
def Reads (w : World) (B size : Nat) (A : Option Addr) (n : Nat) (xs : List Value) : Prop :=
  xs.length = n * size ∧ (0 < n → ∃ ad, A = some ad ∧ ad.block < B ∧ ∀ j u, xs[j]? = some u → w.cell? (ad.add j) = some u)
section
variable {w w' : World} {B B' size n : Nat} {A : Option Addr} {xs : List Value}
theorem Reads.none_ : Reads w B size A 0 [] := ⟨by simp, fun h => absurd h (by omega)⟩
theorem Reads.keep (h : Reads w B size A n xs) (hk : ∀ p : Addr, p.block < B → w'.cell? p = w.cell? p) : Reads w' B size A n xs :=
  ⟨h.1, fun hn => by
    obtain ⟨ad, e, hb, hc⟩ := h.2 hn
    exact ⟨ad, e, hb, fun j u hu => (hk _ (by rw [block_of_add]; exact hb)).trans (hc j u hu)⟩⟩
theorem Reads.more (h : Reads w B size A n xs) (hB : B ≤ B') : Reads w B' size A n xs :=
  ⟨h.1, fun hn => by
    obtain ⟨ad, e, hb, hc⟩ := h.2 hn
    exact ⟨ad, e, by omega, hc⟩⟩
theorem Reads.below (h : Reads w B size A n xs) (hb : Below B w w') : Reads w' B size A n xs := h.keep fun _ hp => hb.cell hp
theorem Reads.alloc (h : Reads w B size A n xs) (hB : B ≤ w.heap.size) (o : Obj) : Reads (w.alloc o) B size A n xs := h.keep fun p hp => World.cell?_alloc_lt w o p (by omega)
/-- The first k elements. -/
theorem Reads.first (h : Reads w B 1 A n xs) {k : Nat} (hk : k ≤ n) : Reads w B 1 A k (xs.take k) := by
  have h1 := h.1
  refine ⟨by rw [List.length_take]; omega, fun h0 => ?_⟩
  obtain ⟨ad, e, hb, hc⟩ := h.2 (by omega)
  exact ⟨ad, e, hb, fun j u hu => hc j u (by rw [List.getElem?_take] at hu; split at hu <;> simp_all)⟩
/-- From k on, as the model writes the cut. -/
theorem Reads.cut (h : Reads w B size A n xs) {k cap : Nat} (hk : k ≤ n) (hc : n ≤ cap) :
    Reads w B size (if cap = k then A else A.map (·.add (k * size))) (n - k) (xs.drop (k * size)) := by
  refine ⟨by rw [List.length_drop, h.1, Nat.sub_mul], fun hn => ?_⟩
  obtain ⟨ad, rfl, hb, hcell⟩ := h.2 (by omega)
  rw [if_neg (by omega)]
  refine ⟨ad.add (k * size), rfl, by rw [block_of_add]; exact hb, fun j u hu => ?_⟩
  rw [add_of_add]
  exact hcell _ u (by rw [← hu, List.getElem?_drop])
/-- Element k, where there is one: the address is plain, the cell is there. -/
theorem Reads.at_ {k : Nat} (h : Reads w B 1 A n xs) (hk : k < n) : ∃ b off u, A = some ⟨b, off, none⟩ ∧ b < B ∧ xs[k]? = some u ∧ w.cell? ⟨b, off + k, none⟩ = some u := by
  obtain ⟨ad, e, hb, hc⟩ := h.2 (by omega)
  have hl : ∀ i, i < n → ∃ u, xs[i]? = some u := fun i hi => ⟨_, List.getElem?_eq_getElem (by have := h.1; omega)⟩
  obtain ⟨u0, hu0⟩ := hl 0 (by omega)
  obtain ⟨u, hu⟩ := hl k hk
  have h0 := hc 0 u0 hu0
  have hs := World.cell?_spot h0
  obtain ⟨b, off, spot⟩ := ad
  simp [Addr.add] at hs
  subst hs
  have hck := hc k u hu
  rw [add_plain] at hck
  exact ⟨b, off, u, e, hb, hu, hck⟩
end
/-- No cell below n of a block is frozen. -/
def NoFz (fz : Nat × Nat) (n : Nat) : Prop := fz.2 ≤ fz.1 ∨ n ≤ fz.1
/-- The slice value v, n elements of type e (size cells each), owns the cells xs; its block is base or later. A mark behind the block's end is let. -/
def Own (w : World) (base : Nat) (e : TypeId) (size : Nat) (v : Value) (n : Nat) (xs : List Value) : Prop :=
  xs.length = n * size ∧
  ((v = .slice none 0 0 ∧ n = 0) ∨
   ∃ g cap cur fz, v = .slice (some ⟨g, 0, none⟩) n cap ∧ base ≤ g ∧ w.heap[g]? = some (.cells cur e fz) ∧ NoFz fz cur.size ∧ n ≤ cap ∧ cap ≤ maxLen ∧ cur.size = cap * size ∧ cur.toList.take (n * size) = xs)
theorem NoFz.at_ {fz : Nat × Nat} {n : Nat} (h : NoFz fz n) {w : World} {g : Nat} {cur : Array Value} {t : TypeId} (hg : w.heap[g]? = some (.cells cur t fz)) {i : Nat} (hi : i < n) : w.frozen? ⟨g, i, none⟩ = false := by
  obtain ⟨lo, hi'⟩ := fz
  simp only [World.frozen?, hg, Bool.and_eq_false_iff, decide_eq_false_iff_not]
  rcases h with h | h <;> simp only at h
  · by_cases c : lo ≤ i
    · right; omega
    · left; omega
  · left; omega
theorem run_storeCells_atM (P : Program) (g o : Nat) (t : TypeId) (fz : Nat × Nat) : ∀ (vs : List Value) (i : Nat) (cur : Array Value) (w : World), w.heap[g]? = some (.cells cur t fz) → NoFz fz cur.size → o + i + vs.length ≤ cur.size → (∀ v ∈ vs, v.oneCell' = true) →
    (storeCells ⟨g, o, none⟩ vs i).run P w = .ok () (w.setRow g (cur.toList.take (o + i) ++ vs ++ cur.toList.drop (o + i + vs.length)).toArray)
  | [], i, cur, w, hg, _, _, _ => by
    simp only [storeCells, List.append_nil, List.length_nil, Nat.add_zero, List.take_append_drop, Array.toArray_toList]
    rw [setRow_self w g cur t fz hg]
    rfl
  | v :: rest, i, cur, w, hg, hfz, hl, h1 => by
    have hi : o + i < cur.size := by simp at hl; omega
    have hadd : (⟨g, o, none⟩ : Addr).add i = ⟨g, o + i, none⟩ := add_plain _ _ _
    have hcell : w.cell? ⟨g, o + i, none⟩ = some cur[o + i] := by simp [World.cell?, hg, hi]
    have hfro : w.frozen? ⟨g, o + i, none⟩ = false := hfz.at_ hg hi
    have hst : (store ((⟨g, o, none⟩ : Addr).add i) v).run P w = .ok () (w.setRow g (cur.setIfInBounds (o + i) v)) := by
      rw [hadd, run_store P w _ v _ (h1 v (by simp)), hcell]
      simp [hfro, setCell_eq_setRow w g (o + i) cur t fz v hg]
    have ih := run_storeCells_atM P g o t fz rest (i + 1) (cur.setIfInBounds (o + i) v) (w.setRow g (cur.setIfInBounds (o + i) v)) (setRow_heap w g cur _ t _ hg) (by simpa using hfz) (by simp at hl ⊢; omega) (fun x hx => h1 x (by simp [hx]))
    simp only [storeCells, Sem.run_bind, hst, Result.andThen_ok, ih, setRow_setRow]
    congr 3
    have e := list_seg_step cur.toList (o + i) v rest (by simp at hl ⊢; omega)
    simpa [Array.toList_setIfInBounds, Nat.add_assoc] using e
section
variable {w w' : World} {base : Nat} {e : TypeId} {size : Nat} {v : Value} {n : Nat} {xs : List Value}
theorem Own.nil (w : World) (base : Nat) (e : TypeId) (size : Nat) : Own w base e size (.slice none 0 0) 0 [] := ⟨by simp, .inl ⟨rfl, rfl⟩⟩
theorem Own.lt (h : Own w base e size v n xs) : ∀ k, v.ownBlock = some k → base ≤ k ∧ k < w.heap.size := by
  intro k hk
  rcases h.2 with ⟨rfl, _⟩ | ⟨g, cap, cur, fz, rfl, hbg, hg, _⟩
  · simp [Value.ownBlock] at hk
  · simp [Value.ownBlock] at hk
    subst hk
    refine ⟨hbg, ?_⟩
    rcases Nat.lt_or_ge g w.heap.size with h | h
    · exact h
    · rw [Array.getElem?_eq_none h] at hg; cases hg
theorem Own.kept {row : Option Nat} (h : Own w base e size v n xs) (hg : w.grownBy w' row) (hne : v.ownBlock = none ∨ v.ownBlock ≠ row) : Own w' base e size v n xs := by
  refine ⟨h.1, ?_⟩
  rcases h.2 with h2 | ⟨g, cap, cur, fz, rfl, hbg, hh, r⟩
  · exact .inl h2
  · have hlt := (h.lt g rfl).2
    refine .inr ⟨g, cap, cur, fz, rfl, hbg, ?_, r⟩
    rw [hg.block g hlt (by rcases hne with h' | h' <;> simp [Value.ownBlock] at h' ⊢; exact h')]
    exact hh
theorem Own.below {B : Nat} (h : Own w base e size v n xs) (hb : Below B w w') (hB : ∀ k, v.ownBlock = some k → k < B) : Own w' base e size v n xs := by
  refine ⟨h.1, ?_⟩
  rcases h.2 with h2 | ⟨g, cap, cur, fz, rfl, hbg, hh, r⟩
  · exact .inl h2
  · exact .inr ⟨g, cap, cur, fz, rfl, hbg, (hb.block g (hB g rfl)).trans hh, r⟩
/-- Over a call that leaves all that was there. -/
theorem Own.up (h : Own w base e size v n xs) (hb : Below w.heap.size w w') : Own w' base e size v n xs := h.below hb fun k hk => (h.lt k hk).2
theorem Own.alloc (h : Own w base e size v n xs) (o : Obj) : Own (w.alloc o) base e size v n xs :=
  h.kept (World.grownBy_alloc w o none) (by cases hv : v.ownBlock <;> simp)
theorem Own.lower {base' : Nat} (h : Own w base e size v n xs) (hb : base' ≤ base) : Own w base' e size v n xs := by
  refine ⟨h.1, ?_⟩
  rcases h.2 with h2 | ⟨g, cap, cur, fz, hv, hbg, r⟩
  · exact .inl h2
  · exact .inr ⟨g, cap, cur, fz, hv, Nat.le_trans hb hbg, r⟩
/-- The value's form. -/
theorem Own.form (h : Own w base e size v n xs) : ∃ a c, v = .slice a n c ∧ n ≤ c ∧ c ≤ maxLen := by
  rcases h.2 with ⟨rfl, rfl⟩ | ⟨g, cap, cur, fz, rfl, _, _, _, hnc, hcm, _⟩
  · exact ⟨none, 0, rfl, Nat.le_refl _, by unfold maxLen; omega⟩
  · exact ⟨_, _, rfl, hnc, hcm⟩
theorem Own.cells (h : Own w base e size v n xs) {g : Nat} (hg : v.ownBlock = some g) : ∀ j u, xs[j]? = some u → w.cell? ((⟨g, 0, none⟩ : Addr).add j) = some u := by
  intro j u hu
  rcases h.2 with ⟨rfl, rfl⟩ | ⟨g', cap, cur, fz, rfl, hbg, hh, _, hnc, hcm, hcs, htake⟩
  · simp [Value.ownBlock] at hg
  · simp [Value.ownBlock] at hg
    subst hg
    rw [add_plain]
    simp only [World.cell?, hh, Nat.zero_add, Option.isSome_none, Bool.false_eq_true, if_false]
    rw [← htake, List.getElem?_take] at hu
    split at hu
    · simpa using hu
    · cases hu
theorem Own.reads {a : Option Addr} {c : Nat} (h : Own w base e size (.slice a n c) n xs) : Reads w w.heap.size size a n xs := by
  refine ⟨h.1, fun hn => ?_⟩
  rcases h.2 with ⟨hv, rfl⟩ | ⟨g, cap, cur, fz, hv, hbg, hh, _⟩
  · omega
  · injection hv with h1 h2 h3
    subst h1
    subst h3
    exact ⟨_, rfl, (h.lt g rfl).2, h.cells (g := g) rfl⟩
/-- The element's store. -/
theorem Own.store {g cap : Nat} (h : Own w base e 1 (.slice (some ⟨g, 0, none⟩) n cap) n xs) (j : Nat) (hj : j < n) (u : Value) :
    (∃ u0, w.cell? ⟨g, j, none⟩ = some u0) ∧ w.frozen? ⟨g, j, none⟩ = false ∧ Own (w.setCell ⟨g, j, none⟩ u) base e 1 (.slice (some ⟨g, 0, none⟩) n cap) n (xs.set j u) ∧ w.grownBy (w.setCell ⟨g, j, none⟩ u) (some g) := by
  rcases h.2 with ⟨hv, _⟩ | ⟨g', cap', cur, fz, hv, hbg, hh, hfz, hnc, hcm, hcs, htake⟩
  · cases hv
  · injection hv with h1 h2 h3
    injection h1 with h1
    injection h1 with h1
    subst h1
    subst h3
    have hjc : j < cur.size := by omega
    refine ⟨⟨cur[j], by simp [World.cell?, hh, hjc]⟩, hfz.at_ hh hjc, ⟨by have := h.1; simpa using this, .inr ⟨g, cap, cur.setIfInBounds j u, fz, rfl, hbg, ?_, by simpa using hfz, hnc, hcm, by simpa using hcs, ?_⟩⟩, ⟨rfl, rfl, rfl, by simp [World.setCell], fun k _ hk => Below.heap_setCell _ _ _ _ (fun e => hk (by rw [e]))⟩⟩
    · simp [World.setCell, Array.getElem?_modify, hh]
    · rw [← htake, Array.toList_setIfInBounds, List.take_set]
end
theorem size_toList (s : ByteArray) : s.data.toList.length = s.size := Array.length_toList
/-- Behind the mark of '[]byte(s)'. -/
theorem Own.ofString (w : World) (base : Nat) (e : TypeId) (s : ByteArray) (hs : s.size ≤ maxLen) (hb : base ≤ w.heap.size) :
    Own (Lib.bytesWorld w e s) base e 1 (.slice (some ⟨w.heap.size, 0, none⟩) s.size (grownCap w s.size 0 e)) s.size (s.data.toList.map fun b => Value.int .u8 b.toNat) := by
  have hge := grownCap_ge w s.size 0 e
  have hl := size_toList s
  refine ⟨by rw [List.length_map, hl, Nat.mul_one], .inr ⟨w.heap.size, _, _, _, rfl, hb, Lib.bytesWorld_at_new w e s, .inr (Nat.le_refl _), hge, grownCap_le_maxLen w _ _ e hs, ?_, ?_⟩⟩
  · simp only [Lib.bytesCells, Array.size_append, Array.size_map, Array.size_replicate, Nat.mul_one]
    have : s.data.size = s.size := rfl
    omega
  · simp only [Lib.bytesCells, Array.toList_append, Array.toList_map, Nat.mul_one]
    rw [List.take_append_of_le_length (by rw [List.length_map, hl]; exact Nat.le_refl _)]
    exact List.take_of_length_le (by rw [List.length_map, hl]; exact Nat.le_refl _)
theorem bytesWorld_below (w : World) (e : TypeId) (s : ByteArray) : Below w.heap.size w (Lib.bytesWorld w e s) :=
  ⟨by unfold Lib.bytesWorld World.freeze; split <;> rfl, by unfold Lib.bytesWorld World.freeze; split <;> rfl, by unfold Lib.bytesWorld World.freeze; split <;> rfl, by rw [Lib.bytesWorld_size]; omega, fun k hk => Lib.bytesWorld_at_old w e s k hk⟩

/-- What is appended or copied: the value x of type u tells m elements, the cells news; the world may have drawn. -/
structure Src (P : Program) (w : World) (u : TypeId) (size : Nat) (x : Value) (m : Nat) (news : List Value) : Prop where
  type : P.underlying u = some .string ∨ ∃ e, P.underlying u = some (.slice e)
  len : ∀ w' : World, (Builtin.lenOf x).run P w' = .ok m w'
  first : (Builtin.firstCells size m x).run P w = .ok news.toArray w
  first' : (Builtin.firstCells size m x).run P w.drew = .ok news.toArray w.drew
  one : ∀ v ∈ news, v.oneCell' = true
  length : news.length = m * size
theorem Src.ofReads {P : Program} {w : World} {B size n c : Nat} {A : Option Addr} {xs : List Value} (u e : TypeId) (hu : P.underlying u = some (.slice e)) (h : Reads w B size A n xs) (h1 : ∀ v ∈ xs, v.oneCell' = true) :
    Src P w u size (.slice A n c) n xs := by
  have key : ∀ w' : World, (∀ p, w'.cell? p = w.cell? p) → (Builtin.firstCells size n (.slice A n c)).run P w' = .ok xs.toArray w' := by
    intro w' hw
    rcases Nat.eq_zero_or_pos n with hn | hn
    · subst hn
      have hx : xs = [] := List.eq_nil_of_length_eq_zero (by have := h.1; simpa using this)
      subst hx
      cases A <;> simp [Builtin.firstCells, loadCells, loadCellsFrom]
    · obtain ⟨ad, rfl, _, hc⟩ := h.2 hn
      exact run_firstCells_some (P := P) w' size n ad n c xs h.1 (fun j v hv => by rw [hw]; exact hc j v hv)
  exact ⟨.inr ⟨_, hu⟩, fun w' => by simp [Builtin.lenOf], key w fun _ => rfl, key w.drew fun _ => rfl, h1, h.1⟩
theorem Src.ofString {P : Program} (w : World) (u : TypeId) (hu : P.underlying u = some .string) (s : ByteArray) : Src P w u 1 (.string s) s.size (Lib.strCells s) :=
  ⟨.inl hu, fun w' => by simp [Builtin.lenOf], Lib.run_firstCells_string w 1 s, Lib.run_firstCells_string w.drew 1 s, Lib.strCells_oneCell s, by rw [Lib.strCells_length, Nat.mul_one]⟩
section
variable {P : Program} (w : World)
/-- The arm that grows, over any source and any old row that reads. -/
theorem run_append_new (base : Nat) (t u ty e : TypeId) (i : TypeInfo) (z : Value) (size bytes : Nat) (ht : P.underlying t = some (.slice e)) (hi : P.info? e = some i) (hz : i.zero = some z)
    (hsize : i.size = size) (hby : i.bytes = bytes) (hzs : z.cells.size = size)
    (A : Option Addr) (n cap B : Nat) (xs : List Value) (hr : Reads w B size A n xs)
    (x : Value) (m : Nat) (news : List Value) (hsrc : Src P w u size x m news)
    (hgrow : cap < n + m) (h63 : n + m ≤ maxLen) (hbytes : (n + m) * bytes ≤ 140737488355328) (hbase : base ≤ w.heap.size) :
    ∃ v' w', (Builtin.append_ #[t, u] ty #[.slice A n cap, x]).run P w = .ok v' w' ∧ Own w' base e size v' (n + m) (xs ++ news) ∧ Below w.heap.size w w' ∧ v'.ownBlock = some w.heap.size := by
  subst hsize
  subst hby
  have hsmall : n + m ≤ 9223372036854775807 := by simp only [maxLen] at h63; omega
  have hn : ¬ (n + m ≤ cap) := by omega
  have h63' : ¬ (9223372036854775807 < ((n : Int) + (m : Int))) := by omega
  have h48' : ¬ (281474976710656 < Builtin.nextslicecap (n + m) cap * i.bytes) := by have := growslice_fits (need := n + m) (old := cap) (bytes := i.bytes) (by omega) hbytes; omega
  have hlen : (xs ++ news).length = (n + m) * i.size := by rw [List.length_append, hr.1, hsrc.length, Nat.add_mul]
  have hf := hsrc.first'
  have hl := hsrc.len
  have hfo : (Builtin.firstCells i.size n (.slice A n cap)).run P w.drew = .ok xs.toArray w.drew := by
    rcases Nat.eq_zero_or_pos n with h0 | h0
    · subst h0
      have hx : xs = [] := List.eq_nil_of_length_eq_zero (by have := hr.1; simpa using this)
      subst hx
      cases A <;> simp [Builtin.firstCells, loadCells, loadCellsFrom]
    · obtain ⟨ad, rfl, _, hc⟩ := hr.2 h0
      exact run_firstCells_some (P := P) w.drew i.size n ad n cap xs hr.1 (fun j v hv => hc j v hv)
  have hge := grownCap_ge w (n + m) cap e
  have hcm := grownCap_le_maxLen w (n + m) cap e h63
  refine ⟨.slice (some ⟨w.heap.size, 0, none⟩) (n + m) (grownCap w (n + m) cap e), w.drew.alloc (.cells (xs.toArray ++ news.toArray ++ Builtin.zeroCells z.cells (grownCap w (n + m) cap e - (n + m))) e), ?_, ?_, ?_, rfl⟩
  · rcases hsrc.type with hd | ⟨d, hd⟩ <;>
      (simp [Builtin.append_, run_underlying ht, run_underlying hd, sizeOf, typeInfo, zeroValue, hi, hz, hl, hn, h63', h48', Question.forced, hf, hfo, newRow, grownCap]
       congr 2
       apply Array.ext'
       simp [List.append_assoc])
  · refine ⟨hlen, .inr ⟨w.heap.size, _, _, (0, 0), rfl, hbase, heap_alloc_new w.drew _, .inl (Nat.le_refl _), hge, hcm, ?_, ?_⟩⟩
    · simp only [Array.size_append, List.size_toArray, size_zeroCells, hzs, hr.1, hsrc.length, ← Nat.add_mul]
      congr 1
      omega
    · simp only [Array.toList_append, List.append_assoc]
      rw [← List.append_assoc, ← hlen]
      exact List.take_left
  · exact ((Below.refl _ w).drew).alloc (Nat.le_refl _) _
/-- The arm with room: the row is the call's own. -/
theorem run_append_in (base : Nat) (t u ty e : TypeId) (i : TypeInfo) (size : Nat) (ht : P.underlying t = some (.slice e)) (hi : P.info? e = some i)
    (hsize : i.size = size) (g n cap : Nat) (xs : List Value) (hown : Own w base e size (.slice (some ⟨g, 0, none⟩) n cap) n xs)
    (x : Value) (m : Nat) (news : List Value) (hsrc : Src P w u size x m news) (hroom : n + m ≤ cap) :
    ∃ w', (Builtin.append_ #[t, u] ty #[.slice (some ⟨g, 0, none⟩) n cap, x]).run P w = .ok (.slice (some ⟨g, 0, none⟩) (n + m) cap) w' ∧ Own w' base e size (.slice (some ⟨g, 0, none⟩) (n + m) cap) (n + m) (xs ++ news) ∧ w.grownBy w' (some g) := by
  subst hsize
  rcases hown.2 with ⟨hv, _⟩ | ⟨g', cap', cur, fz, hv, hbg, hg, hfz, hnc, hcm, hcs, htake⟩
  · cases hv
  injection hv with h1 h2 h3
  injection h1 with h1
  injection h1 with h1
  subst h1
  subst h3
  have hfit : n * i.size + news.length ≤ cur.size := by rw [hsrc.length, hcs, ← Nat.add_mul]; exact Nat.mul_le_mul_right _ hroom
  have hlen : (xs ++ news).length = (n + m) * i.size := by rw [List.length_append, hown.1, hsrc.length, Nat.add_mul]
  have hst := run_storeCells_atM P g (n * i.size) e fz news 0 cur w hg hfz (by simpa using hfit) hsrc.one
  simp only [Nat.add_zero] at hst
  have hf := hsrc.first
  have hl := hsrc.len
  refine ⟨w.setRow g (cur.toList.take (n * i.size) ++ news ++ cur.toList.drop (n * i.size + news.length)).toArray, ?_, ⟨hlen, .inr ⟨g, cap, _, fz, rfl, hbg, setRow_heap w g cur _ e _ hg, ?_, hroom, hcm, ?_, ?_⟩⟩, ⟨rfl, rfl, rfl, by simp, fun k _ hk => setRow_other w g k _ (fun e => hk (by rw [e]))⟩⟩
  · rcases hsrc.type with hd | ⟨d, hd⟩ <;> simp [Builtin.append_, run_underlying ht, run_underlying hd, sizeOf, typeInfo, hi, hl, hroom, hf, Addr.add_lit, hst]
  · have : (cur.toList.take (n * i.size) ++ news ++ cur.toList.drop (n * i.size + news.length)).toArray.size = cur.size := by
      simp only [List.size_toArray, List.length_append, List.length_take, List.length_drop, Array.length_toList]; omega
    rw [this]; exact hfz
  · simp only [List.size_toArray, List.length_append, List.length_take, List.length_drop, Array.length_toList]
    omega
  · rw [htake, ← hlen]
    exact List.take_left
theorem own_at_form {base : Nat} {e : TypeId} {size n : Nat} {v : Value} {xs : List Value} {w : World} (h : Own w base e size v n xs) : v = .slice none 0 0 ∧ n = 0 ∨ ∃ g cap, v = .slice (some ⟨g, 0, none⟩) n cap := by
  rcases h.2 with h | ⟨g, cap, cur, fz, hv, _⟩
  · exact .inl h
  · exact .inr ⟨g, cap, hv⟩
theorem run_append_src (base : Nat) (t u ty e : TypeId) (i : TypeInfo) (z : Value) (size bytes : Nat) (ht : P.underlying t = some (.slice e)) (hi : P.info? e = some i) (hz : i.zero = some z)
    (hsize : i.size = size) (hby : i.bytes = bytes) (hzs : z.cells.size = size)
    (v : Value) (n : Nat) (xs : List Value) (hown : Own w base e size v n xs)
    (x : Value) (m : Nat) (news : List Value) (hsrc : Src P w u size x m news)
    (h63 : n + m ≤ maxLen) (hbytes : (n + m) * bytes ≤ 140737488355328) (hbase : base ≤ w.heap.size) :
    ∃ v' w', (Builtin.append_ #[t, u] ty #[v, x]).run P w = .ok v' w' ∧ Own w' base e size v' (n + m) (xs ++ news) ∧ w.grownBy w' v.ownBlock ∧ (v'.ownBlock = v.ownBlock ∨ v'.ownBlock = some w.heap.size) := by
  rcases own_at_form hown with ⟨rfl, rfl⟩ | ⟨g, cap, rfl⟩
  · have hx : xs = [] := List.eq_nil_of_length_eq_zero (by simpa using hown.1)
    subst hx
    rcases Nat.eq_zero_or_pos m with hm | hm
    · subst hm
      have hn : news = [] := List.eq_nil_of_length_eq_zero (by simpa using hsrc.length)
      subst hn
      refine ⟨.slice none 0 0, w, ?_, Own.nil w base e size, ⟨rfl, rfl, rfl, Nat.le_refl _, fun _ _ _ => rfl⟩, .inl rfl⟩
      have hf := hsrc.first
      have hl := hsrc.len
      subst hsize
      rcases hsrc.type with hd | ⟨d, hd⟩ <;> simp [Builtin.append_, run_underlying ht, run_underlying hd, sizeOf, typeInfo, hi, hl, hf]
    · obtain ⟨v', w', r1, r2, r3, r4⟩ := run_append_new (P := P) w base t u ty e i z size bytes ht hi hz hsize hby hzs none 0 0 0 [] Reads.none_ x m news hsrc (by omega) h63 hbytes hbase
      exact ⟨v', w', r1, r2, ⟨r3.os, r3.tape, r3.output, r3.size, fun k hk _ => r3.block k hk⟩, .inr r4⟩
  · by_cases hroom : n + m ≤ cap
    · obtain ⟨w', r1, r2, r3⟩ := run_append_in (P := P) w base t u ty e i size ht hi hsize g n cap xs hown x m news hsrc hroom
      exact ⟨_, w', r1, r2, r3, .inl rfl⟩
    · obtain ⟨v', w', r1, r2, r3, r4⟩ := run_append_new (P := P) w base t u ty e i z size bytes ht hi hz hsize hby hzs _ n cap _ xs hown.reads x m news hsrc (by omega) h63 hbytes hbase
      exact ⟨v', w', r1, r2, ⟨r3.os, r3.tape, r3.output, r3.size, fun k hk _ => r3.block k hk⟩, .inr r4⟩
end

/-- A slice type's row of the program's table. -/
structure Elem (P : Program) (t e : TypeId) (z : Value) (size bytes : Nat) : Prop where
  ht : P.underlying t = some (.slice e)
  info : ∃ i, P.info? e = some i ∧ i.zero = some z ∧ i.size = size ∧ i.bytes = bytes
  zs : z.cells.size = size
  pos : 0 < size
theorem elem_of {P : Program} {t e : TypeId} {z : Value} {size bytes : Nat} (ht : P.underlying t = some (.slice e)) (h : (P.info? e).map (fun i => (i.zero, i.size, i.bytes)) = some (some z, size, bytes)) (zs : z.cells.size = size) (pos : 0 < size) : Elem P t e z size bytes := by
  obtain ⟨i, hi, h1, h2, h3⟩ := info_parts h
  exact ⟨ht, ⟨i, hi, h1, h2, h3⟩, zs, pos⟩
theorem wpList_builtin {P : Program} {w : World} {ops : Array Oper} {rest : List Oper} {o : Oper} {a : Act} {Q : Exit → Act → World → Prop} (hgd : o.guard = none) (s x : Operand) (t u : TypeId)
    (ho : o.op = .call { callee := .builtin .append, args := #[s, x], argTypes := #[t, u] }) (v' : Value) (w' : World)
    (hrun : (Builtin.append_ #[t, u] o.type #[a.eval s, a.eval x]).run P w = .ok v' w') (h : wpList P ops Q rest (a.put o.dst v') w') : wpList P ops Q (o :: rest) a w := by
  refine wpList_plain hgd fun K hK => ?_
  unfold Oper.wp execOp
  simp only [ho, resolve, invoke, builtin, Sem.run_bind, Sem.run_pure, Result.andThen_ok, List.map_toArray, List.map_cons, List.map_nil, hrun]
  exact hK _ _ h
/-- append onto a row of the call's own. -/
theorem wpList_append_mine {P : Program} {w : World} {ops : Array Oper} {rest : List Oper} {o : Oper} {a : Act} {Q : Exit → Act → World → Prop} {t e : TypeId} {z : Value} {size bytes : Nat} (el : Elem P t e z size bytes)
    (hgd : o.guard = none) (s x : Operand) (u : TypeId) (ho : o.op = .call { callee := .builtin .append, args := #[s, x], argTypes := #[t, u] })
    (base : Nat) (v : Value) (n : Nat) (xs : List Value) (hs : a.eval s = v) (hown : Own w base e size v n xs)
    (xv : Value) (hx : a.eval x = xv) (m : Nat) (news : List Value) (hsrc : Src P w u size xv m news)
    (h63 : n + m ≤ 1048576 * 1024) (hby : bytes ≤ 65536) (hbase : base ≤ w.heap.size)
    (h : ∀ (A : Option Addr) (c : Nat) (w' : World), Own w' base e size (.slice A (n + m) c) (n + m) (xs ++ news) → w.grownBy w' v.ownBlock → ((Value.slice A (n + m) c).ownBlock = v.ownBlock ∨ (Value.slice A (n + m) c).ownBlock = some w.heap.size) →
      wpList P ops Q rest (a.put o.dst (.slice A (n + m) c)) w') : wpList P ops Q (o :: rest) a w := by
  obtain ⟨i, hi, hz, h2, h3⟩ := el.info
  obtain ⟨v', w', hr, h4, h5, h6⟩ := run_append_src (P := P) w base t u o.type e i z size bytes el.ht hi hz h2 h3 el.zs v n xs hown xv m news hsrc (by unfold maxLen; omega)
    (Nat.le_trans (Nat.mul_le_mul h63 hby) (by omega)) hbase
  obtain ⟨A, c, rfl, _⟩ := h4.form
  exact wpList_builtin hgd s x t u ho _ w' (by rw [hs, hx]; exact hr) (h A c w' h4 h5 h6)
/-- append onto a row that is full: new memory. -/
theorem wpList_append_full {P : Program} {w : World} {ops : Array Oper} {rest : List Oper} {o : Oper} {a : Act} {Q : Exit → Act → World → Prop} {t e : TypeId} {z : Value} {size bytes : Nat} (el : Elem P t e z size bytes)
    (hgd : o.guard = none) (s x : Operand) (u : TypeId) (ho : o.op = .call { callee := .builtin .append, args := #[s, x], argTypes := #[t, u] })
    (base : Nat) (A0 : Option Addr) (n cap B : Nat) (xs : List Value) (hs : a.eval s = .slice A0 n cap) (hr : Reads w B size A0 n xs)
    (xv : Value) (hx : a.eval x = xv) (m : Nat) (news : List Value) (hsrc : Src P w u size xv m news) (hgrow : cap < n + m)
    (h63 : n + m ≤ 1048576 * 1024) (hby : bytes ≤ 65536) (hbase : base ≤ w.heap.size)
    (h : ∀ (A : Option Addr) (c : Nat) (w' : World), Own w' base e size (.slice A (n + m) c) (n + m) (xs ++ news) → Below w.heap.size w w' → (Value.slice A (n + m) c).ownBlock = some w.heap.size →
      wpList P ops Q rest (a.put o.dst (.slice A (n + m) c)) w') : wpList P ops Q (o :: rest) a w := by
  obtain ⟨i, hi, hz, h2, h3⟩ := el.info
  obtain ⟨v', w', hr', h4, h5, h6⟩ := run_append_new (P := P) w base t u o.type e i z size bytes el.ht hi hz h2 h3 el.zs A0 n cap B xs hr xv m news hsrc hgrow (by unfold maxLen; omega)
    (Nat.le_trans (Nat.mul_le_mul h63 hby) (by omega)) hbase
  obtain ⟨A, c, rfl, _⟩ := h4.form
  exact wpList_builtin hgd s x t u ho _ w' (by rw [hs, hx]; exact hr') (h A c w' h4 h5 h6)
/-! ### Bytes -/
def bv (l : List UInt8) : List Value := l.map fun c => .int .u8 (c.toNat : Int)
theorem bv_length (l : List UInt8) : (bv l).length = l.length := by simp [bv]
theorem bv_append (l m : List UInt8) : bv (l ++ m) = bv l ++ bv m := by simp [bv]
theorem bv_take (l : List UInt8) (k : Nat) : bv (l.take k) = (bv l).take k := by simp [bv]
theorem bv_drop (l : List UInt8) (k : Nat) : bv (l.drop k) = (bv l).drop k := by simp [bv]
theorem bv_set (l : List UInt8) (k : Nat) (c : UInt8) : bv (l.set k c) = (bv l).set k (.int .u8 (c.toNat : Int)) := by simp [bv]
theorem bv_one (l : List UInt8) : ∀ v ∈ bv l, v.oneCell' = true := by
  intro v hv
  simp only [bv, List.mem_map] at hv
  obtain ⟨c, _, rfl⟩ := hv
  rfl
theorem bv_at (l : List UInt8) (k : Nat) : (bv l)[k]? = (l[k]?).map fun c => .int .u8 (c.toNat : Int) := by simp [bv]
theorem bv_str (s : ByteArray) : Lib.strCells s = bv s.data.toList := rfl
/-- The bytes l as a string. -/
def st (l : List UInt8) : ByteArray := ⟨l.toArray⟩
theorem st_toList (l : List UInt8) : (st l).data.toList = l := by simp [st]
theorem st_size (l : List UInt8) : (st l).size = l.length := by simp [st, ByteArray.size]
theorem st_list (l : List UInt8) : (st l).toList = l := by unfold st; simp
attribute [go_sem] st_size st_list
theorem st_of (s : ByteArray) : s = st s.data.toList := by simp [st]
/-- '.slice A n c' reads as the bytes l, below block B. -/
def RdB (w : World) (B : Nat) (A : Option Addr) (n : Nat) (l : List UInt8) : Prop := Reads w B 1 A n (bv l)
/-- '.slice A n c' owns the bytes l, from block base on. -/
def OwB (w : World) (base : Nat) (A : Option Addr) (n c : Nat) (l : List UInt8) : Prop := Own w base 5 1 (.slice A n c) n (bv l)
section
variable {w w' : World} {B base n c : Nat} {A : Option Addr} {l : List UInt8}
theorem RdB.len (h : RdB w B A n l) : l.length = n := by have := h.1; rw [bv_length] at this; omega
theorem OwB.rd (h : OwB w base A n c l) : RdB w w.heap.size A n l := Own.reads h
theorem OwB.len (h : OwB w base A n c l) : l.length = n := h.rd.len
theorem OwB.cap (h : OwB w base A n c l) : n ≤ c ∧ c ≤ maxLen := by
  obtain ⟨a, c', hv, h1, h2⟩ := Own.form h
  injection hv with _ _ h3
  subst h3
  exact ⟨h1, h2⟩
theorem OwB.up (h : OwB w base A n c l) (hb : Below w.heap.size w w') : OwB w' base A n c l := Own.up h hb
theorem OwB.lower {base' : Nat} (h : OwB w base A n c l) (hb : base' ≤ base) : OwB w base' A n c l := Own.lower h hb
theorem OwB.nil (w : World) (base : Nat) : OwB w base none 0 0 [] := Own.nil w base 5 1
theorem OwB.alloc (h : OwB w base A n c l) (o : Obj) : OwB (w.alloc o) base A n c l := Own.alloc h o
theorem OwB.drew (h : OwB w base A n c l) : OwB w.drew base A n c l := h
theorem RdB.alloc (h : RdB w B A n l) (hB : B ≤ w.heap.size) (o : Obj) : RdB (w.alloc o) B A n l := Reads.alloc h hB o
theorem RdB.drew (h : RdB w B A n l) : RdB w.drew B A n l := h
theorem RdB.below (h : RdB w B A n l) (hb : Below B w w') : RdB w' B A n l := Reads.below h hb
theorem RdB.more {B' : Nat} (h : RdB w B A n l) (hB : B ≤ B') : RdB w B' A n l := Reads.more h hB
theorem RdB.up (h : RdB w w.heap.size A n l) (hb : Below w.heap.size w w') : RdB w' w'.heap.size A n l := (h.below hb).more hb.size
theorem RdB.nil : RdB w B A 0 [] := ⟨by simp [bv], fun h => by simp at h⟩
theorem RdB.first (h : RdB w B A n l) {k : Nat} (hk : k ≤ n) : RdB w B A k (l.take k) := by
  have := Reads.first h hk
  unfold RdB
  rwa [bv_take]
theorem RdB.cut (h : RdB w B A n l) {k : Nat} (hk : k ≤ n) (hc : n ≤ c) : RdB w B (if c = k then A else A.map (·.add k)) (n - k) (l.drop k) := by
  have := Reads.cut h hk hc
  unfold RdB
  rw [bv_drop]
  simpa using this
theorem RdB.at_ {k : Nat} (h : RdB w B A n l) (hk : k < n) : ∃ b off, ∃ x : UInt8, A = some ⟨b, off, none⟩ ∧ b < B ∧ l[k]? = some x ∧ w.cell? ⟨b, off + k, none⟩ = some (.int .u8 (x.toNat : Int)) := by
  obtain ⟨b, off, u, h1, h2, h3, h4⟩ := Reads.at_ h hk
  have hl : k < l.length := by rw [h.len]; exact hk
  rw [bv_at, List.getElem?_eq_getElem hl] at h3
  simp at h3
  subst h3
  exact ⟨b, off, l[k], h1, h2, List.getElem?_eq_getElem hl, h4⟩
theorem RdB.src {P : Program} (h : RdB w B A n l) (u e : TypeId) (hu : P.underlying u = some (.slice e)) : Src P w u 1 (.slice A n c) n (bv l) := Src.ofReads u e hu h (bv_one l)
/-- A row with an element has a block of its own. -/
theorem OwB.blk (h : OwB w base A n c l) (hn : 0 < n) : ∃ g, A = some ⟨g, 0, none⟩ ∧ base ≤ g ∧ g < w.heap.size := by
  rcases h.2 with ⟨hv, h0⟩ | ⟨g, cap, cur, fz, hv, hbg, _⟩
  · omega
  · injection hv with h1
    subst h1
    exact ⟨g, rfl, hbg, (Own.lt h g rfl).2⟩
end
theorem byte_back (l : List UInt8) : #[].toList ++ List.map ((fun n : Int => UInt8.ofNat n.toNat) ∘ fun c : UInt8 => (c.toNat : Int)) l = l := by
  have : ((fun n : Int => UInt8.ofNat n.toNat) ∘ fun c : UInt8 => (c.toNat : Int)) = id := by
    funext c
    simp
  rw [this]
  simp
/-- string(b). -/
theorem run_bytes_string {P : Program} {w : World} {B n c : Nat} {A : Option Addr} {l : List UInt8} (src dst e : TypeId) (hs : P.underlying src = some (.slice e)) (he : P.underlying e = some (.int .u8)) (hd : P.underlying dst = some .string) (h : RdB w B A n l) :
    (convert src dst (.slice A n c)).run P w = .ok (.string (st l)) w := by
  have hln := h.len
  rcases Nat.eq_zero_or_pos n with h0 | h0
  · have hl : l = [] := List.eq_nil_of_length_eq_zero (by omega)
    subst hl
    subst h0
    cases A with
    | none => exact run_convert_bytes_nil w src e hs he 0 c dst hd
    | some ad =>
      rw [run_convert_bytes_string w src dst e _ _ c hs he hd]
      exact run_bytesToString w ad 0 c [] (by simp [loadCells, loadCellsFrom])
  · obtain ⟨ad, rfl, _, hc⟩ := h.2 h0
    have hl := run_loadCells_list (P := P) w ad (bv l) hc
    have hb : bv l = (l.map fun c => (c.toNat : Int)).map (Value.int .u8) := by simp [bv]
    rw [bv_length, hb, hln] at hl
    rw [run_convert_bytes_string w src dst e _ _ c hs he hd, run_bytesToString w ad n c _ hl, foldl_push_bytes]
    simp [st, ByteArray.empty, ByteArray.emptyWithCapacity]
    exact byte_back l
/-- append of bytes onto bytes of the call's own. -/
theorem wpList_appendB {P : Program} {w : World} {ops : Array Oper} {rest : List Oper} {o : Oper} {a : Act} {Q : Exit → Act → World → Prop} {t : TypeId} (el : Elem P t 5 (.int .u8 0) 1 1)
    (hgd : o.guard = none) (s x : Operand) (u : TypeId) (ho : o.op = .call { callee := .builtin .append, args := #[s, x], argTypes := #[t, u] })
    (base : Nat) (A0 : Option Addr) (n0 c0 : Nat) (l1 : List UInt8) (hs : a.eval s = .slice A0 n0 c0) (hown : OwB w base A0 n0 c0 l1)
    (xv : Value) (hx : a.eval x = xv) (m : Nat) (l2 : List UInt8) (hsrc : Src P w u 1 xv m (bv l2))
    (h63 : n0 + m ≤ 1073741824) (hbase : base ≤ w.heap.size)
    (h : ∀ (A : Option Addr) (n c : Nat) (l' : List UInt8) (w' : World), Hid (l' = l1 ++ l2) → Hid (n = n0 + m) → OwB w' base A n c l' → Below base w w' → w.grownBy w' (A0.map (·.block)) →
      wpList P ops Q rest (a.put o.dst (.slice A n c)) w') : wpList P ops Q (o :: rest) a w := by
  refine wpList_append_mine el hgd s x u ho base (.slice A0 n0 c0) n0 (bv l1) hs hown xv hx m (bv l2) hsrc h63 (by omega) hbase ?_
  intro A c w' ho' hg _
  have hr : (Value.slice A0 n0 c0).ownBlock = A0.map (·.block) := by cases A0 <;> rfl
  rw [hr] at hg
  refine h A (n0 + m) c (l1 ++ l2) w' rfl rfl ?_ ⟨hg.os, hg.tape, hg.output, hg.size, fun k hk => hg.block k (by omega) (fun e => ?_)⟩ hg
  · unfold OwB
    rw [bv_append]
    exact ho'
  · have := (Own.lt hown k (by rw [hr]; exact e.symm)).1
    omega
/-- append of bytes onto bytes without spare room: new memory. -/
theorem wpList_append_fullB {P : Program} {w : World} {ops : Array Oper} {rest : List Oper} {o : Oper} {a : Act} {Q : Exit → Act → World → Prop} {t : TypeId} (el : Elem P t 5 (.int .u8 0) 1 1)
    (hgd : o.guard = none) (s x : Operand) (u : TypeId) (ho : o.op = .call { callee := .builtin .append, args := #[s, x], argTypes := #[t, u] })
    (base : Nat) (A0 : Option Addr) (n0 c0 B : Nat) (l1 : List UInt8) (hs : a.eval s = .slice A0 n0 c0) (hr : RdB w B A0 n0 l1)
    (xv : Value) (hx : a.eval x = xv) (m : Nat) (l2 : List UInt8) (hsrc : Src P w u 1 xv m (bv l2)) (hgrow : c0 < n0 + m)
    (h63 : n0 + m ≤ 1073741824) (hbase : base ≤ w.heap.size)
    (h : ∀ (A : Option Addr) (n c : Nat) (l' : List UInt8) (w' : World), Hid (l' = l1 ++ l2) → Hid (n = n0 + m) → OwB w' base A n c l' → Below w.heap.size w w' →
      wpList P ops Q rest (a.put o.dst (.slice A n c)) w') : wpList P ops Q (o :: rest) a w := by
  refine wpList_append_full el hgd s x u ho base A0 n0 c0 B (bv l1) hs hr xv hx m (bv l2) hsrc hgrow h63 (by omega) hbase ?_
  intro A c w' ho' hg _
  refine h A (n0 + m) c (l1 ++ l2) w' rfl rfl ?_ hg
  unfold OwB
  rw [bv_append]
  exact ho'
/-- One byte in a block of its own ('append(b, c)'). -/
theorem Src.oneByte {P : Program} (w : World) (u e : TypeId) (hu : P.underlying u = some (.slice e)) (x : UInt8) (t : TypeId) :
    Src P (w.alloc (.cells #[.int .u8 (x.toNat : Int)] t)) u 1 (.slice (some ⟨w.heap.size, 0, none⟩) 1 1) 1 (bv [x]) :=
  Src.ofReads (B := w.heap.size + 1) u e hu ⟨by simp [bv], fun _ => ⟨_, rfl, by simp, fun j v hv => cell_one_new w _ t j v (by simpa [bv] using hv)⟩⟩ (bv_one _)
theorem Src.str {P : Program} (w : World) (u : TypeId) (hu : P.underlying u = some .string) (l : List UInt8) : Src P w u 1 (.string (st l)) l.length (bv l) := by
  have := Src.ofString w u hu (st l)
  rwa [bv_str, st_toList, st_size] at this

/-- '.slice A n c' reads as the cells xs, below block B. -/
def RdV (w : World) (B : Nat) (A : Option Addr) (n : Nat) (xs : List Value) : Prop := Reads w B 1 A n xs
section
variable {w w' : World} {B base n c : Nat} {e : TypeId} {A : Option Addr} {xs : List Value}
theorem RdV.len (h : RdV w B A n xs) : xs.length = n := by have := h.1; omega
theorem RdV.below (h : RdV w B A n xs) (hb : Below B w w') : RdV w' B A n xs := Reads.below h hb
theorem RdV.more {B' : Nat} (h : RdV w B A n xs) (hB : B ≤ B') : RdV w B' A n xs := Reads.more h hB
theorem RdV.nil : RdV w B A 0 [] := ⟨by simp, fun h => by simp at h⟩
theorem RdV.at_ {k : Nat} (h : RdV w B A n xs) (hk : k < n) : ∃ b off u, A = some ⟨b, off, none⟩ ∧ b < B ∧ xs[k]? = some u ∧ w.cell? ⟨b, off + k, none⟩ = some u := Reads.at_ h hk
/-- A row of values that was just laid. -/
theorem RdV.new (w : World) (xs : List Value) (C : Array Value) (hC : C.toList = xs) (t : TypeId) (fz : Nat × Nat) : RdV (w.alloc (.cells C t fz)) (w.heap.size + 1) (some ⟨w.heap.size, 0, none⟩) xs.length xs := by
  refine ⟨by rw [Nat.mul_one], fun _ => ⟨_, rfl, by simp, fun j u hu => ?_⟩⟩
  rw [add_plain, Nat.zero_add]
  rw [← hC] at hu
  have : (w.alloc (.cells C t fz)).heap[w.heap.size]? = some (.cells C t fz) := heap_alloc_new w _
  simp only [World.cell?, this]
  simpa using hu
end
/-- Strings as cells. -/
def sv (ls : List (List UInt8)) : List Value := ls.map fun l => .string (st l)
theorem sv_at (ls : List (List UInt8)) (k : Nat) : (sv ls)[k]? = (ls[k]?).map fun l => .string (st l) := by simp [sv]

theorem bytesElem : Elem Try.prog 25 5 (.int .u8 0) 1 1 := elem_of Try.underlying25 (by kernel_rfl) rfl (by omega)
theorem ret_int {k : IntKind} {a b : Int} (h : a = b) : Ending.returned (.int k a) = .returned (.int k b) := by rw [h]
/-- n, or its distance from -1. -/
def up0 (n : Int) : Int := if n < 0 then -(n + 1) else n
theorem around_any (n : Int) (m : Nat) (w : World) (h0 : -9223372036854775808 ≤ n) (h1 : n ≤ 9223372036854775807) (hm : 1 ≤ m) (hm2 : m ≤ 9223372036854775807) :
    Calls Try.prog 20 #[.int .i64 n, .int .i64 m] w fun e w' => ∃ k : Nat, Hid ((k : Int) = up0 n % m) ∧ k < m ∧ e = .returned (.int .i64 k) ∧ w = w' := by
  have hmod : ∀ x : Int, 0 ≤ x → ∃ k : Nat, (k : Int) = x % m ∧ k < m := fun x hx => by
    refine ⟨(x % m).toNat, ?_, ?_⟩
    · have := Int.emod_nonneg x (show (m : Int) ≠ 0 by omega); omega
    · have := Int.emod_lt_of_pos x (show (0 : Int) < m by omega); have := Int.emod_nonneg x (show (m : Int) ≠ 0 by omega); omega
  by_cases hn : n < 0
  · obtain ⟨k, hk1, hk2⟩ := hmod (-(n + 1)) (by omega)
    have HK := Lib.hid hk1
    clear hk1 hmod
    go_enter Try.func20, Try.ntmps20
    go_wp2
    go_ret
    refine ⟨k, ?_, hk2, ret_int ?_, rfl⟩
    · show (k : Int) = _
      rw [HK.out]; unfold up0; rw [if_pos hn]
    · rw [HK.out, ← Int.neg_tmod, Int.tmod_eq_emod_of_nonneg (by omega)]
  · obtain ⟨k, hk1, hk2⟩ := hmod n (by omega)
    have HK := Lib.hid hk1
    clear hk1 hmod
    go_enter Try.func20, Try.ntmps20
    go_wp2
    go_ret
    refine ⟨k, ?_, hk2, ret_int ?_, rfl⟩
    · show (k : Int) = _
      rw [HK.out]; unfold up0; rw [if_neg (by omega)]
    · rw [HK.out]

theorem few_any (A : Option Addr) (n c : Nat) (l : List UInt8) (most : Nat) (w : World) (h : RdB w w.heap.size A n l) (hc : n ≤ c) (hc2 : c ≤ maxLen) (hm : most ≤ 65536) :
    Calls Try.prog 23 #[.slice A n c, .int .i64 most] w fun e w' => ∃ A' n' c' l', Hid (l' = l.take most) ∧ e = .returned (.slice A' n' c') ∧ OwB w' w.heap.size A' n' c' l' ∧ Below w.heap.size w w' := by
  unfold maxLen at hc2
  by_cases hl : n ≤ most
  · have H := Lib.hid (h.src (P := Try.prog) (c := c) 25 5 Try.underlying25)
    go_enter Try.func23, Try.ntmps23
    go_wp2_with (at_builtin; go_must (refine wpList_appendB bytesElem rfl (.tmp 6) (.tmp 12) 25 rfl w.heap.size none 0 0 [] rfl (OwB.nil _ _) _ rfl n l H.out (by omega) (Nat.le_refl _) ?_); intro A' n' c' l' w' hl' hn' hown hb hg)
    go_ret
    exact ⟨A', n', c', l', by rw [hl'.out]; exact (List.take_of_length_le (by have := h.len; simp; omega)).symm, rfl, hown, hb⟩
  · have H := Lib.hid ((h.first (k := most) (by omega)).src (P := Try.prog) (c := c) 25 5 Try.underlying25)
    generalize hq : l.take most = q at H
    have Hq := Lib.hid hq
    clear hq
    go_enter Try.func23, Try.ntmps23
    go_wp2_with (at_builtin; go_must (refine wpList_appendB bytesElem rfl (.tmp 6) (.tmp 12) 25 rfl w.heap.size none 0 0 [] rfl (OwB.nil _ _) _ rfl most q H.out (by omega) (Nat.le_refl _) ?_); intro A' n' c' l' w' hl' hn' hown hb hg)
    go_ret
    exact ⟨A', n', c', l', by rw [hl'.out]; rfl, rfl, hown, hb⟩

/-- From w to W: nothing that was there has turned, but the blocks of G. -/
structure Keeps (G : Nat → Prop) (w W : World) : Prop where
  os : W.os = w.os
  tape : W.tape = w.tape
  output : W.output = w.output
  size : w.heap.size ≤ W.heap.size
  block : ∀ k, k < w.heap.size → ¬ G k → W.heap[k]? = w.heap[k]?
def NoG : Nat → Prop := fun _ => False
theorem Keeps.refl (G : Nat → Prop) (w : World) : Keeps G w w := ⟨rfl, rfl, rfl, Nat.le_refl _, fun _ _ _ => rfl⟩
theorem Keeps.trans {G : Nat → Prop} {a b c : World} (h : Keeps G a b) (k : Keeps G b c) : Keeps G a c :=
  ⟨k.os.trans h.os, k.tape.trans h.tape, k.output.trans h.output, Nat.le_trans h.size k.size, fun i hi hn => (k.block i (Nat.lt_of_lt_of_le hi h.size) hn).trans (h.block i hi hn)⟩
theorem Keeps.of_below {G : Nat → Prop} {w W : World} (h : Below w.heap.size w W) : Keeps G w W := ⟨h.os, h.tape, h.output, h.size, fun k hk _ => h.block k hk⟩
theorem Keeps.below {w W : World} (h : Keeps NoG w W) : Below w.heap.size w W := ⟨h.os, h.tape, h.output, h.size, fun k hk => h.block k hk id⟩
/-- The worlds to which w may have gone. -/
structure Abv (G : Nat → Prop) (w : World) where
  val : World
  keeps : Keeps G w val
instance (G : Nat → Prop) (w : World) : Inhabited (Abv G w) := ⟨⟨w, Keeps.refl G w⟩⟩
theorem Abv.below {w : World} (p : Abv NoG w) : Below w.heap.size w p.val := p.keeps.below
section
variable {P : Program} {ops : Array Oper} {Q : Exit → Act → World → Prop} {G : Nat → Prop}
/-- The post at the region's end alone. -/
def OnlyN (Q : Exit → Act → World → Prop) : Exit → Act → World → Prop
  | .normal, a, w => Q .normal a w
  | _, _, _ => False
theorem OnlyN.imp : ∀ (e : Exit) (a : Act) (w : World), OnlyN Q e a w → Q e a w := fun e a w h => by
  cases e <;> first | exact h | exact (h : False).elim
/-- Behind an operation that came up alone: what was there is as it was, and the rest. -/
def Solo (G : Nat → Prop) (w : World) (K : Act → World → Prop) : Exit → Act → World → Prop
  | .normal, a, w' => Keeps G w w' ∧ K a w'
  | _, _, _ => False
theorem Solo.mk {w w' : World} {K : Act → World → Prop} {a : Act} (h : Keeps G w w') (k : K a w') : Solo G w K .normal a w' := ⟨h, k⟩
theorem Solo.up {w w' : World} {K : Act → World → Prop} {a : Act} (h : Below w.heap.size w w') (k : K a w') : Solo G w K .normal a w' := ⟨.of_below h, k⟩
def wpPlan (P : Program) (ops : Array Oper) (Q : Exit → Act → World → Prop) (G : Nat → Prop) : List (Nat × Bool) → Act → World → Prop
  | [], a, w => Q .normal a w
  | (i, false) :: r, a, w => ∃ o, ops[i]? = some o ∧ wpQuiet P ops (fun w' => ∃ p : Abv G w, w' = p.val) (fun a' => wpPlan P ops Q G r a' w) [o] a
  | (i, true) :: r, a, w => ∃ o, ops[i]? = some o ∧ wpList P ops (Solo G w (wpPlan P ops Q G r)) [o] a w
/-- Not a call of a Go function, and nothing rare. -/
def noCall (o : Oper) : Bool :=
  match o.op with
  | .call c => (match c.callee with | .builtin .len => true | .builtin .cap => true | .builtin .min => true | .builtin .max => true | _ => false)
  | .move _ | .assign _ | .pick .. | .load .. | .nilCheck _ | .binOp .. | .unOp .. | .convert .. | .slice .. | .fieldAddr .. | .field .. | .indexAddr .. | .index .. | .extract .. | .makeInterface .. | .lookup .. => true
  | _ => false
def planB (ops : Array Oper) : List (Nat × Bool) → Array Bool → Bool
  | [], listed => (Region.ready .any ops listed).isEmpty
  | (i, false) :: r, listed => (Region.ready .any ops listed).contains i && Region.free .any ops listed i && ((ops[i]?).map noCall).getD false && planB ops r (listed.setIfInBounds i true)
  | (i, true) :: r, listed => (Region.ready .any ops listed == [i]) && planB ops r (listed.setIfInBounds i true)
theorem plan_take {i : Nat} {o : Oper} {r : List (Nat × Bool)} {a : Act} {w : World} (ho : ops[i]? = some o)
    (h : wpQuiet P ops (fun w' => ∃ p : Abv G w, w' = p.val) (fun a' => wpPlan P ops Q G r a' w) [o] a) : wpPlan P ops Q G ((i, false) :: r) a w := ⟨o, ho, h⟩
theorem plan_end {a : Act} {w : World} (h : Q .normal a w) : wpPlan P ops (OnlyN Q) G [] a w := h
theorem wpAnyH_weaken {S S' : World → Prop} {md : Region.Mode} (hS : ∀ w, S' w → S w) : ∀ (fuel : Nat) (listed : Array Bool) (a : Act) (w : World), wpAnyH P md ops Q S' fuel listed a w → wpAnyH P md ops Q S fuel listed a w
  | 0, _, _, _, h => h
  | fuel + 1, _, _, _, h => ⟨h.1, fun i hi => wpOp_mono (fun a' w' h' => ⟨hS _ h'.1, wpAnyH_weaken hS fuel _ a' w' h'.2⟩) (h.2 i hi)⟩
/-- It hands on a value alone. -/
def NE (P : Program) (s : Sem Next) : Prop := ∀ w n w', s.run P w = .ok n w' → ∃ v, n = .value v
theorem NE.bind {α : Type} {s : Sem α} {k : α → Sem Next} (h : ∀ x, NE P (k x)) : NE P (s >>= k) := by
  intro w n w' e
  rw [Sem.run_bind] at e
  cases hs : s.run P w with
  | ok v w1 => rw [hs] at e; exact h v _ _ _ e
  | halt x w1 => rw [hs] at e; simp [Result.andThen] at e
theorem NE.value (v : Value) : NE P (pure (.value v)) := by intro w n w' e; simp at e; exact ⟨v, e.1.symm⟩
theorem NE.halt (x : Halt) : NE P (Sem.halt x) := by intro w n w' e; simp [Sem.run] at e
theorem NE.nil : NE P (runtimePanic .nilDeref) := NE.bind fun p => NE.halt _
theorem noEnter {o : Oper} {ρ : Operand → Value} (hn : noCall o = true) : NE P (execOp ρ o) := by
  obtain ⟨dst, op, ty, pos, after, guard⟩ := o
  cases op <;> try (simp only [noCall, Bool.false_eq_true] at hn; done)
  case call c =>
    obtain ⟨callee, xs, ats⟩ := c
    cases callee with
    | builtin b =>
      cases b <;> simp only [noCall, Bool.false_eq_true] at hn <;>
        (simp only [execOp]
         intro w n w' h
         simp only [resolve, invoke, builtin, Sem.run_bind, Sem.run_pure, Result.andThen_ok] at h
         cases hs : Sem.run P _ w with
         | ok v w1 => rw [hs] at h; simp at h; exact ⟨_, h.1.symm⟩
         | halt x w1 => rw [hs] at h; simp [Result.andThen] at h)
    | value x => simp [noCall] at hn
    | invoke x y => simp [noCall] at hn
  case move x => exact NE.value _
  case assign x => exact NE.value _
  case nilCheck x =>
    simp only [execOp]
    split
    · exact NE.nil
    · exact NE.nil
    · exact NE.nil
    · split
      · exact NE.nil
      · refine NE.bind fun p => NE.bind fun b => ?_
        split
        · exact NE.halt _
        · exact NE.value _
      · exact NE.value _
    · exact NE.value _
  all_goals exact NE.bind fun _ => NE.value _
/-- What a quiet operation yields, in every world above. -/
theorem yields_of {S : World → Prop} {o : Oper} {a : Act} {v : Value} {C : World → Prop} (hn : noCall o = true) (hw : Region.wanted o (yielded ops a.tmps) = true) (hSC : ∀ w, S w → C w) (h : ∀ w, C w → o.quietAt P a C w v)
    : YieldsIf P ops S o v a := by
  refine .inl ⟨hw, fun w hS => ?_⟩
  have h1 := h w (hSC w hS)
  have h2 := noEnter (P := P) (ρ := a.eval) hn w
  unfold Oper.quietAt at h1
  generalize (execOp a.eval o).run P w = r at h1 h2
  cases r with
  | ok n w' =>
    obtain ⟨u, rfl⟩ := h2 n w' rfl
    obtain ⟨rfl, rfl⟩ := h1
    rfl
  | halt x w' => exact False.elim h1
theorem rg_iff {w W : World} : (∃ p : Abv G w, W = p.val) ↔ Keeps G w W :=
  ⟨fun ⟨p, hp⟩ => by rw [hp]; exact p.keeps, fun h => ⟨⟨W, h⟩, rfl⟩⟩
theorem wp_all {o : Oper} {a : Act} {w : World} {K K' : Act → World → Prop} {Q Q' : Exit → Act → World → Prop} (hK : ∀ a w, K a w → K' a w) (hQ : ∀ c a w, Q (.panic c) a w → Q' (.panic c) a w) (hO : ∀ a w, Q .outgrown a w → Q' .outgrown a w)
    (h : o.wp P a w K Q) : o.wp P a w K' Q' := by
  unfold Oper.wp at *
  generalize (execOp a.eval o).run P w = r at *
  cases r with
  | ok n w' =>
    cases n <;> simp only [Oper.upon] at h ⊢ <;>
      first
        | exact hK _ _ h
        | exact Calls.mono h (fun e w'' he => by
            cases e
            · exact hK _ _ he
            · exact hQ _ _ _ he
            · obtain ⟨x, y, hxy⟩ := he; exact ⟨x, y, hO _ _ hxy⟩)
        | exact Rows.mono h (fun _ _ he => hK _ _ he)
  | halt x w' => cases x <;> simp only [Oper.upon] at h ⊢ <;> first | exact hQ _ _ _ h | exact h
theorem plan_sound (hs : Region.noSelect ops = true) : ∀ (plan : List (Nat × Bool)) (fuel : Nat) (listed : Array Bool) (a : Act) (w : World), plan.length ≤ fuel → planB ops plan listed = true → wpPlan P ops (OnlyN Q) G plan a w →
    wpAnyH P .any ops (OnlyN Q) (fun W => Keeps G w W) fuel listed a w
  | [], fuel, listed, a, w, _, hB, h => wpAnyH_done (by simpa [planB] using hB) h fuel
  | (i, false) :: r, 0, _, _, _, hf, _, _ => by simp at hf
  | (i, true) :: r, 0, _, _, _, hf, _, _ => by simp at hf
  | (i, false) :: r, fuel + 1, listed, a, w, hf, hB, h => by
    obtain ⟨o, ho, hq⟩ := h
    simp only [planB, Bool.and_eq_true, ho, Option.map_some, Option.getD_some] at hB
    obtain ⟨⟨⟨hr, hfr⟩, hn⟩, hB⟩ := hB
    have hlen : r.length ≤ fuel := by simpa using hf
    simp only [wpQuiet] at hq
    split at hq
    · rename_i hw
      obtain ⟨v, hv, hnext⟩ := hq
      exact wpAnyH_take ho hs hfr hr (fun _ _ _ h => h) (yields_of hn hw (fun W hW => rg_iff.2 hW) hv) (Keeps.refl _ _) (plan_sound hs r fuel _ _ _ hlen hB hnext)
    · rename_i hw
      exact wpAnyH_take ho hs hfr hr (fun _ _ _ h => h) (.inr ⟨by simpa using hw, rfl⟩) (Keeps.refl _ _) (plan_sound hs r fuel _ _ _ hlen hB hq)
  | (i, true) :: r, fuel + 1, listed, a, w, hf, hB, h => by
    obtain ⟨o, ho, hq⟩ := h
    simp only [planB, Bool.and_eq_true, beq_iff_eq] at hB
    obtain ⟨hr, hB⟩ := hB
    have hlen : r.length ≤ fuel := by simpa using hf
    have go : ∀ a' w', Solo G w (wpPlan P ops (OnlyN Q) G r) .normal a' w' → Keeps G w w' ∧ wpAnyH P .any ops (OnlyN Q) (fun W => Keeps G w W) fuel (listed.setIfInBounds i true) a' w' := fun a' w' ⟨hb, hk⟩ =>
      ⟨hb, wpAnyH_weaken (fun W hW => hb.trans hW) _ _ _ _ (plan_sound hs r fuel _ _ _ hlen hB hk)⟩
    refine wpAnyH_all hr (by simp) fun j hj => ?_
    obtain rfl : j = i := by simpa using hj
    unfold wpOp
    simp only [ho]
    simp only [wpList] at hq
    split at hq
    · rename_i hw
      rw [if_pos hw]
      rcases hq with hq | ⟨_, x, y, hxy⟩
      · exact .inl (wp_all go (fun _ _ _ h => (h : False).elim) (fun _ _ h => (h : False).elim) hq)
      · exact (hxy : False).elim
    · rename_i hw
      rw [if_neg hw]
      exact go _ _ hq
/-- The region, by a plan. -/
theorem wp_region_plan (G : Nat → Prop) {id : Nat} {a : Act} {w : World} (plan : List (Nat × Bool)) (hm : P.follows .mixedOrders = true) (hB : (Region.noSelect ops && (decide (plan.length ≤ ops.size) && planB ops plan (Array.replicate ops.size false))) = true)
    (h : wpPlan P ops (OnlyN Q) G plan a w.drew) : (Code.region id ops true).wp P Q a w := by
  simp only [Bool.and_eq_true, decide_eq_true_eq] at hB
  obtain ⟨h1, h2, h3⟩ := hB
  exact Code.wp_mono OnlyN.imp (wp_region_held (S := fun W => Keeps G w.drew W) hm (plan_sound h1 plan _ _ _ _ h2 h3 h))
end

/-- One step of a plan: taken first; alone; two in both rows. -/
inductive Pl where
  | t (i : Nat)
  | s (i : Nat)
  | b (i j : Nat)
section
variable {P : Program} {ops : Array Oper} {Q : Exit → Act → World → Prop} {G : Nat → Prop}
/-- An operation that comes up: from its own walk to what 'wpAnyH' asks of it. -/
theorem op_sound {i : Nat} {o : Oper} {a : Act} {w : World} {K : Act → World → Prop} {K' : Act → World → Prop} (ho : ops[i]? = some o) (hK : ∀ a' w', Keeps G w w' → K a' w' → K' a' w')
    (hq : wpList P ops (Solo G w K) [o] a w) : wpOp P ops (OnlyN Q) i K' a w := by
  have go : ∀ a' w', Solo G w K .normal a' w' → K' a' w' := fun a' w' ⟨hb, hk⟩ => hK a' w' hb hk
  unfold wpOp
  simp only [ho]
  simp only [wpList] at hq
  split at hq
  · rename_i hw
    rw [if_pos hw]
    rcases hq with hq | ⟨_, x, y, hxy⟩
    · exact .inl (wp_all go (fun _ _ _ h => (h : False).elim) (fun _ _ h => (h : False).elim) hq)
    · exact (hxy : False).elim
  · rename_i hw
    rw [if_neg hw]
    exact go _ _ hq
end

/-- A plan that parts: taken first; alone; one of two. -/
inductive Tr where
  | nil
  | t (i : Nat) (r : Tr)
  | s (i : Nat) (r : Tr)
  | b (i : Nat) (r : Tr) (j : Nat) (r' : Tr)
section
variable {P : Program} {ops : Array Oper} {Q : Exit → Act → World → Prop} {G : Nat → Prop}
def wpTr (P : Program) (ops : Array Oper) (Q : Exit → Act → World → Prop) (G : Nat → Prop) : Tr → Act → World → Prop
  | .nil, a, w => Q .normal a w
  | .t i r, a, w => ∃ o, ops[i]? = some o ∧ wpQuiet P ops (fun w' => ∃ p : Abv G w, w' = p.val) (fun a' => wpTr P ops Q G r a' w) [o] a
  | .s i r, a, w => ∃ o, ops[i]? = some o ∧ wpList P ops (Solo G w (wpTr P ops Q G r)) [o] a w
  | .b i r j r', a, w => ∃ oi oj, ops[i]? = some oi ∧ ops[j]? = some oj ∧ wpList P ops (Solo G w (wpTr P ops Q G r)) [oi] a w ∧ wpList P ops (Solo G w (wpTr P ops Q G r')) [oj] a w
def trB (ops : Array Oper) : Tr → Array Bool → Bool
  | .nil, listed => (Region.ready .any ops listed).isEmpty
  | .t i r, listed => (Region.ready .any ops listed).contains i && Region.free .any ops listed i && ((ops[i]?).map noCall).getD false && trB ops r (listed.setIfInBounds i true)
  | .s i r, listed => (Region.ready .any ops listed == [i]) && trB ops r (listed.setIfInBounds i true)
  | .b i r j r', listed => (Region.ready .any ops listed == [i, j]) && trB ops r (listed.setIfInBounds i true) && trB ops r' (listed.setIfInBounds j true)
def trLen : Tr → Nat
  | .nil => 0
  | .t _ r => trLen r + 1
  | .s _ r => trLen r + 1
  | .b _ r _ r' => max (trLen r) (trLen r') + 1
theorem tr_take {i : Nat} {o : Oper} {r : Tr} {a : Act} {w : World} (ho : ops[i]? = some o)
    (h : wpQuiet P ops (fun w' => ∃ p : Abv G w, w' = p.val) (fun a' => wpTr P ops Q G r a' w) [o] a) : wpTr P ops Q G (.t i r) a w := ⟨o, ho, h⟩
theorem tr_solo {i : Nat} {o : Oper} {r : Tr} {a : Act} {w : World} (ho : ops[i]? = some o)
    (h : wpList P ops (Solo G w (wpTr P ops Q G r)) [o] a w) : wpTr P ops Q G (.s i r) a w := ⟨o, ho, h⟩
theorem tr_both {i j : Nat} {oi oj : Oper} {r r' : Tr} {a : Act} {w : World} (hi : ops[i]? = some oi) (hj : ops[j]? = some oj)
    (h1 : wpList P ops (Solo G w (wpTr P ops Q G r)) [oi] a w) (h2 : wpList P ops (Solo G w (wpTr P ops Q G r')) [oj] a w) : wpTr P ops Q G (.b i r j r') a w := ⟨oi, oj, hi, hj, h1, h2⟩
theorem tr_end {a : Act} {w : World} (h : Q .normal a w) : wpTr P ops (OnlyN Q) G .nil a w := h
theorem tr_sound (hs : Region.noSelect ops = true) : ∀ (plan : Tr) (fuel : Nat) (listed : Array Bool) (a : Act) (w : World), trLen plan ≤ fuel → trB ops plan listed = true → wpTr P ops (OnlyN Q) G plan a w →
    wpAnyH P .any ops (OnlyN Q) (fun W => Keeps G w W) fuel listed a w
  | .nil, fuel, listed, a, w, _, hB, h => wpAnyH_done (by simpa [trB] using hB) h fuel
  | .t i r, 0, _, _, _, hf, _, _ => by simp [trLen] at hf
  | .s i r, 0, _, _, _, hf, _, _ => by simp [trLen] at hf
  | .b i r j r', 0, _, _, _, hf, _, _ => by simp [trLen] at hf
  | .t i r, fuel + 1, listed, a, w, hf, hB, h => by
    obtain ⟨o, ho, hq⟩ := h
    simp only [trB, Bool.and_eq_true, ho, Option.map_some, Option.getD_some] at hB
    obtain ⟨⟨⟨hr, hfr⟩, hn⟩, hB⟩ := hB
    have hlen : trLen r ≤ fuel := by simpa [trLen] using hf
    simp only [wpQuiet] at hq
    split at hq
    · rename_i hw
      obtain ⟨v, hv, hnext⟩ := hq
      exact wpAnyH_take ho hs hfr hr (fun _ _ _ h => h) (yields_of hn hw (fun W hW => rg_iff.2 hW) hv) (Keeps.refl _ _) (tr_sound hs r fuel _ _ _ hlen hB hnext)
    · rename_i hw
      exact wpAnyH_take ho hs hfr hr (fun _ _ _ h => h) (.inr ⟨by simpa using hw, rfl⟩) (Keeps.refl _ _) (tr_sound hs r fuel _ _ _ hlen hB hq)
  | .s i r, fuel + 1, listed, a, w, hf, hB, h => by
    obtain ⟨o, ho, hq⟩ := h
    simp only [trB, Bool.and_eq_true, beq_iff_eq] at hB
    obtain ⟨hr, hB⟩ := hB
    have hlen : trLen r ≤ fuel := by simpa [trLen] using hf
    refine wpAnyH_all hr (by simp) fun k hk => ?_
    obtain rfl : k = i := by simpa using hk
    exact op_sound ho (fun a' w' hb hk' => ⟨hb, wpAnyH_weaken (fun W hW => hb.trans hW) _ _ _ _ (tr_sound hs r fuel _ _ _ hlen hB hk')⟩) hq
  | .b i r j r', fuel + 1, listed, a, w, hf, hB, h => by
    obtain ⟨oi, oj, hoi, hoj, h1, h2⟩ := h
    simp only [trB, Bool.and_eq_true, beq_iff_eq] at hB
    obtain ⟨⟨hr, hBi⟩, hBj⟩ := hB
    have hlen : trLen r ≤ fuel ∧ trLen r' ≤ fuel := by simp only [trLen] at hf; omega
    refine wpAnyH_all hr (by simp) fun k hk => ?_
    have hk' : k = i ∨ k = j := by simpa using hk
    rcases hk' with rfl | rfl
    · exact op_sound hoi (fun a' w' hb hk' => ⟨hb, wpAnyH_weaken (fun W hW => hb.trans hW) _ _ _ _ (tr_sound hs r fuel _ _ _ hlen.1 hBi hk')⟩) h1
    · exact op_sound hoj (fun a' w' hb hk' => ⟨hb, wpAnyH_weaken (fun W hW => hb.trans hW) _ _ _ _ (tr_sound hs r' fuel _ _ _ hlen.2 hBj hk')⟩) h2
/-- The region, by such a plan. -/
theorem wp_region_tr (G : Nat → Prop) {id : Nat} {a : Act} {w : World} (plan : Tr) (hm : P.follows .mixedOrders = true) (hB : (Region.noSelect ops && (decide (trLen plan ≤ ops.size) && trB ops plan (Array.replicate ops.size false))) = true)
    (h : wpTr P ops (OnlyN Q) G plan a w.drew) : (Code.region id ops true).wp P Q a w := by
  simp only [Bool.and_eq_true, decide_eq_true_eq] at hB
  obtain ⟨h1, h2, h3⟩ := hB
  exact Code.wp_mono OnlyN.imp (wp_region_held (S := fun W => Keeps G w.drew W) hm (tr_sound h1 plan _ _ _ _ h2 h3 h))
end

/-- Block g holds just the cells cs, none of them frozen. -/
def Blk (w : World) (g : Nat) (t : TypeId) (cs : List Value) : Prop := w.heap[g]? = some (.cells cs.toArray t (0, 0))
section
variable {w w' : World} {g : Nat} {t : TypeId} {cs : List Value}
theorem Blk.lt (h : Blk w g t cs) : g < w.heap.size := by
  unfold Blk at h
  rcases Nat.lt_or_ge g w.heap.size with h' | h'
  · exact h'
  · rw [Array.getElem?_eq_none h'] at h; cases h
theorem Blk.cell (h : Blk w g t cs) (i : Nat) (v : Value) (hv : cs[i]? = some v) : w.cell? ⟨g, i, none⟩ = some v := by
  unfold Blk at h
  simp only [World.cell?, h]
  simpa using hv
theorem Blk.free (h : Blk w g t cs) (i : Nat) : w.frozen? ⟨g, i, none⟩ = false := by
  unfold Blk at h
  simp [World.frozen?, h]
theorem Blk.set (h : Blk w g t cs) (i : Nat) (u : Value) : Blk (w.setCell ⟨g, i, none⟩ u) g t (cs.set i u) := by
  unfold Blk at *
  simp [World.setCell, Array.getElem?_modify, h]
theorem Blk.other (h : Blk w g t cs) {p : Addr} (hp : p.block ≠ g) (u : Value) : Blk (w.setCell p u) g t cs := by
  unfold Blk at *
  rw [← h]
  exact Below.heap_setCell w p u g hp.symm
theorem Blk.alloc (h : Blk w g t cs) (o : Obj) : Blk (w.alloc o) g t cs := by
  have := h.lt
  unfold Blk at *
  rw [← h]
  exact Below.heap_alloc w o g this
theorem Blk.drew (h : Blk w g t cs) : Blk w.drew g t cs := h
theorem Blk.keeps {G : Nat → Prop} (h : Blk w g t cs) (k : Keeps G w w') (hg : ¬ G g) : Blk w' g t cs := (k.block g h.lt hg).trans h
theorem Blk.below {B : Nat} (h : Blk w g t cs) (k : Below B w w') (hg : g < B) : Blk w' g t cs := (k.block g hg).trans h
theorem Blk.up (h : Blk w g t cs) (k : Below w.heap.size w w') : Blk w' g t cs := h.below k h.lt
theorem Blk.new (w : World) (t : TypeId) (cs : List Value) : Blk (w.alloc (.cells cs.toArray t)) w.heap.size t cs := heap_alloc_new w _
theorem Keeps.drew {G : Nat → Prop} (h : Keeps G w w') : Keeps G w w'.drew := ⟨h.os, h.tape, h.output, h.size, h.block⟩
theorem Keeps.alloc {G : Nat → Prop} (h : Keeps G w w') (o : Obj) : Keeps G w (w'.alloc o) :=
  ⟨h.os, h.tape, h.output, Nat.le_trans h.size (by simp), fun i hi hn => (Below.heap_alloc w' o i (Nat.lt_of_lt_of_le hi h.size)).trans (h.block i hi hn)⟩
theorem Keeps.setCell {G : Nat → Prop} (h : Keeps G w w') {p : Addr} (hp : G p.block ∨ w.heap.size ≤ p.block) (u : Value) : Keeps G w (w'.setCell p u) :=
  ⟨h.os, h.tape, h.output, by simpa [World.setCell] using h.size, fun i hi hn => (Below.heap_setCell w' p u i (by
    rintro rfl
    rcases hp with hp | hp
    · exact hn hp
    · omega)).trans (h.block i hi hn)⟩
theorem Keeps.mono {G G' : Nat → Prop} (h : Keeps G w w') (hG : ∀ k, k < w.heap.size → G k → G' k) : Keeps G' w w' := ⟨h.os, h.tape, h.output, h.size, fun k hk hn => h.block k hk (fun hg => hn (hG k hk hg))⟩
/-- Nothing below B has turned. -/
theorem Keeps.under {G : Nat → Prop} {B : Nat} (h : Keeps G w w') (hB : B ≤ w.heap.size) (hG : ∀ k, k < B → ¬ G k) : Below B w w' := ⟨h.os, h.tape, h.output, h.size, fun k hk => h.block k (Nat.lt_of_lt_of_le hk hB) (hG k hk)⟩
/-- The blocks that are but g. -/
def Is (g : Nat) : Nat → Prop := fun k => k = g
theorem Keeps.is {g : Nat} {B : Nat} (h : Keeps (Is g) w w') (hB : B ≤ g) (hg : g ≤ w.heap.size) : Below B w w' := h.under (Nat.le_trans hB hg) fun k hk e => by
  have e' : k = g := e
  omega
theorem Own.keeps {G : Nat → Prop} {base : Nat} {e : TypeId} {size n : Nat} {v : Value} {xs : List Value} (h : Own w base e size v n xs) (k : Keeps G w w') (hG : ∀ k, base ≤ k → ¬ G k) : Own w' base e size v n xs := by
  have hlt := h.lt
  refine ⟨h.1, ?_⟩
  rcases h.2 with h2 | ⟨g, cap, cur, fz, rfl, hbg, hh, r⟩
  · exact .inl h2
  · exact .inr ⟨g, cap, cur, fz, rfl, hbg, (k.block g (hlt g rfl).2 (hG g hbg)).trans hh, r⟩
theorem OwB.keeps {G : Nat → Prop} {base n c : Nat} {A : Option Addr} {l : List UInt8} (h : OwB w base A n c l) (k : Keeps G w w') (hG : ∀ k, base ≤ k → ¬ G k) : OwB w' base A n c l := Own.keeps h k hG
end
/-- A whole struct stored into a block that is known whole. -/
theorem run_storeBlk {P : Program} {w : World} {g : Nat} {t : TypeId} {cs cs' : List Value} (hs : (P.info? t).map (·.size) = some cs'.length) (h : Blk w g t cs) (hl : cs'.length = cs.length) (h1 : ∀ v ∈ cs', v.oneCell' = true) :
    (Instr.storeAt t (.pointer (some ⟨g, 0, none⟩)) (.agg cs'.toArray)).run P w = .ok () (w.setRow g cs'.toArray) := by
  obtain ⟨i, hi, hsz⟩ := Option.map_eq_some_iff.1 hs
  have hst := run_storeCells_atM P g 0 t (0, 0) cs' 0 cs.toArray w h (.inl (Nat.le_refl _)) (by simp [hl]) h1
  simp only [Nat.add_zero, Nat.zero_add, List.take_zero, List.nil_append, hl] at hst
  rw [List.drop_of_length_le (by simp), List.append_nil] at hst
  simp [Instr.storeAt, Instr.sureAddr, storeVar, sizeOf, typeInfo, hi, hsz, Value.cells, hst]
theorem Blk.setRow {w : World} {g : Nat} {t : TypeId} {cs : List Value} (h : Blk w g t cs) (cs' : List Value) : Blk (w.setRow g cs'.toArray) g t cs' := setRow_heap w g cs.toArray _ t _ h
theorem wpList_storeBlk {P : Program} {w : World} {ops : Array Oper} {rest : List Oper} {o : Oper} {a : Act} {Q : Exit → Act → World → Prop} (hgd : o.guard = none) (x y : Operand) {t : TypeId} (ho : o.op = .store t x y) (hd : o.dst = none)
    {g : Nat} {cs : List Value} (cs' : List Value) (hx : a.eval x = .pointer (some ⟨g, 0, none⟩)) (hy : a.eval y = .agg cs'.toArray) (hs : (P.info? t).map (·.size) = some cs'.length) (h : Blk w g t cs) (hl : cs'.length = cs.length) (h1 : ∀ v ∈ cs', v.oneCell' = true)
    (k : wpList P ops Q rest a (w.setRow g cs'.toArray)) : wpList P ops Q (o :: rest) a w := by
  refine wpList_plain hgd fun K hK => ?_
  unfold Oper.wp execOp
  simp only [ho, hx, hy, run_storeBlk hs h hl h1, Sem.run_bind, Result.andThen_ok, Sem.run_pure]
  refine hK _ _ ?_
  rw [hd]
  exact k
theorem below_setRow {B : Nat} {w w' : World} (h : Below B w w') {g : Nat} (hg : B ≤ g) (cs : Array Value) : Below B w (w'.setRow g cs) :=
  ⟨h.os, h.tape, h.output, by simpa using h.size, fun k hk => (setRow_other w' g k _ (by omega)).trans (h.block k hk)⟩
theorem cell_abv {G : Nat → Prop} {w : World} {b o : Nat} {v : Value} (h : w.cell? ⟨b, o, none⟩ = some v) (hG : ¬ G b) : ∀ p : Abv G w, p.val.cell? ⟨b, o, none⟩ = some v :=
  fun p => (World.cell?_of_block (p.keeps.block b (World.block_lt_of_cell? w _ h) hG)).trans h
theorem Keeps.cell {G : Nat → Prop} {w w' : World} (k : Keeps G w w') {b o : Nat} {v : Value} (h : w.cell? ⟨b, o, none⟩ = some v) (hG : ¬ G b) : w'.cell? ⟨b, o, none⟩ = some v :=
  (World.cell?_of_block (k.block b (World.block_lt_of_cell? w _ h) hG)).trans h
theorem keeps_setRow (w : World) {g : Nat} (cs : Array Value) : Keeps (Is g) w (w.setRow g cs) :=
  ⟨rfl, rfl, rfl, by simp, fun k _ hn => setRow_other w g k _ (fun e => hn e)⟩

/-- []byte(s). -/
theorem wpList_stringB {P : Program} {w : World} {ops : Array Oper} {rest : List Oper} {o : Oper} {a : Act} {Q : Exit → Act → World → Prop} {t : TypeId} (el : Elem P t 5 (.int .u8 0) 1 1) (he : P.underlying 5 = some (.int .u8))
    (hgd : o.guard = none) (x : Operand) (src : TypeId) (hs : P.underlying src = some .string) (ho : o.op = .convert src t x) (l : List UInt8) (hx : a.eval x = .string (st l)) (hl : l.length ≤ 1073741824) (base : Nat) (hbase : base ≤ w.heap.size)
    (h : ∀ (g n c : Nat) (w' : World), Hid (n = l.length) → OwB w' base (some ⟨g, 0, none⟩) n c l → Below w.heap.size w w' →
      wpList P ops Q rest (a.put o.dst (.slice (some ⟨g, 0, none⟩) n c)) w') : wpList P ops Q (o :: rest) a w := by
  have hr := Lib.run_convert_string_bytes (P := P) w src t 5 (st l) hs el.ht he
  refine wpList_plain hgd fun K hK => ?_
  unfold Oper.wp execOp
  simp only [ho, hx, hr, Sem.run_bind, Result.andThen_ok, Sem.run_pure]
  refine hK _ _ (h w.heap.size _ _ _ (st_size l) ?_ (bytesWorld_below _ _ _))
  have := Own.ofString w base 5 (st l) (by rw [st_size]; unfold maxLen; omega) hbase
  rw [st_toList] at this
  exact this

theorem below_of_drew {a w : World} (h : Below a.drew.heap.size a.drew w) : Below a.heap.size a w := ⟨h.os, h.tape, h.output, h.size, h.block⟩
def RoundRel (most : Nat) (w1 : World) (i : Value) (wr : World) : Prop := ∃ j : Nat, j ≤ most ∧ i = .int .i64 j ∧ Below w1.heap.size w1 wr
/-- string(b), in whatever world above. -/
theorem str_of {w W : World} {n c : Nat} {A : Option Addr} {l : List UInt8} (h : RdB w w.heap.size A n l) (hb : Below w.heap.size w W) : (convert 25 9 (.slice A n c)).run Try.prog W = .ok (.string (st l)) W :=
  run_bytes_string _ _ _ Try.underlying25 Try.underlying5 Try.underlying9 (h.below hb)
theorem Up.trans {a b c : World} (h : Below a.heap.size a b) (k : Below b.heap.size b c) : Below a.heap.size a c := h.trans (k.mono h.size)

theorem flatK_at {k : Nat} {rows : List (List Value)} (h : ∀ r ∈ rows, r.length = k) : ∀ (i j : Nat) (r : List Value) (v : Value), rows[i]? = some r → r[j]? = some v → rows.flatten[i * k + j]? = some v := by
  induction rows with
  | nil => intro i j r v hr; simp at hr
  | cons r0 rs ih =>
    intro i j r v hr hv
    have h0 := h r0 List.mem_cons_self
    cases i with
    | zero =>
      simp at hr
      subst hr
      have hj : j < r0.length := (List.getElem?_eq_some_iff.1 hv).1
      simp only [List.flatten_cons, Nat.zero_mul, Nat.zero_add]
      rw [List.getElem?_append_left hj]
      exact hv
    | succ i =>
      simp only [List.getElem?_cons_succ] at hr
      simp only [List.flatten_cons]
      rw [List.getElem?_append_right (by rw [Nat.add_mul]; omega)]
      have := ih (fun x hx => h x (List.mem_cons_of_mem _ hx)) i j r v hr hv
      rw [← this]
      congr 1
      rw [Nat.add_mul]
      omega
/-- '.slice A n c', of elements of k cells, reads as the rows rs, below block B. -/
def RdR (w : World) (B k : Nat) (A : Option Addr) (n : Nat) (rs : List (List Value)) : Prop := (∀ r ∈ rs, r.length = k) ∧ rs.length = n ∧ (0 < n → ∃ b off, A = some ⟨b, off, none⟩ ∧ b < B ∧ ∀ (i j : Nat) (r : List Value) (v : Value), rs[i]? = some r → r[j]? = some v → w.cell? ⟨b, off + i * k + j, none⟩ = some v)
/-- '.slice A n c', of elements of type e and of k cells, owns the rows rs, from block base on. -/
def OwR (w : World) (base : Nat) (e : TypeId) (k : Nat) (A : Option Addr) (n c : Nat) (rs : List (List Value)) : Prop := (∀ r ∈ rs, r.length = k) ∧ rs.length = n ∧ Own w base e k (.slice A n c) n rs.flatten
section
variable {w w' : World} {B base k n c : Nat} {e : TypeId} {A : Option Addr} {rs : List (List Value)}
theorem RdR.len (h : RdR w B k A n rs) : rs.length = n := h.2.1
theorem OwR.len (h : OwR w base e k A n c rs) : rs.length = n := h.2.1
theorem RdR.below (h : RdR w B k A n rs) (hb : Below B w w') : RdR w' B k A n rs := by
  refine ⟨h.1, h.2.1, fun hn => ?_⟩
  obtain ⟨b, off, hA, hlt, hc⟩ := h.2.2 hn
  exact ⟨b, off, hA, hlt, fun i j r v hr hv => (hb.cell (p := ⟨b, off + i * k + j, none⟩) hlt).trans (hc i j r v hr hv)⟩
theorem RdR.more {B' : Nat} (h : RdR w B k A n rs) (hB : B ≤ B') : RdR w B' k A n rs := by
  refine ⟨h.1, h.2.1, fun hn => ?_⟩
  obtain ⟨b, off, hA, hlt, hc⟩ := h.2.2 hn
  exact ⟨b, off, hA, by omega, hc⟩
theorem RdR.up (h : RdR w w.heap.size k A n rs) (hb : Below w.heap.size w w') : RdR w' w'.heap.size k A n rs := (h.below hb).more hb.size
theorem RdR.nil : RdR w B k A 0 [] := ⟨by simp, rfl, fun h => by omega⟩
theorem RdR.at_ (h : RdR w B k A n rs) {i : Nat} (hi : i < n) : ∃ b off r, A = some ⟨b, off, none⟩ ∧ b < B ∧ rs[i]? = some r ∧ r.length = k ∧ ∀ (j : Nat) (v : Value), r[j]? = some v → w.cell? ⟨b, off + i * k + j, none⟩ = some v := by
  obtain ⟨b, off, hA, hlt, hc⟩ := h.2.2 (by omega)
  have hl : i < rs.length := by rw [h.2.1]; exact hi
  exact ⟨b, off, rs[i], hA, hlt, List.getElem?_eq_getElem hl, h.1 _ (List.getElem_mem hl), fun j v hv => hc i j _ v (List.getElem?_eq_getElem hl) hv⟩
theorem OwR.nil (w : World) (base : Nat) (e : TypeId) (k : Nat) : OwR w base e k none 0 0 [] := ⟨by simp, rfl, Own.nil w base e k⟩
theorem OwR.up (h : OwR w base e k A n c rs) (hb : Below w.heap.size w w') : OwR w' base e k A n c rs := ⟨h.1, h.2.1, Own.up h.2.2 hb⟩
theorem OwR.alloc (h : OwR w base e k A n c rs) (o : Obj) : OwR (w.alloc o) base e k A n c rs := ⟨h.1, h.2.1, Own.alloc h.2.2 o⟩
theorem OwR.drew (h : OwR w base e k A n c rs) : OwR w.drew base e k A n c rs := h
theorem OwR.lower {base' : Nat} (h : OwR w base e k A n c rs) (hb : base' ≤ base) : OwR w base' e k A n c rs := ⟨h.1, h.2.1, Own.lower h.2.2 hb⟩
theorem OwR.keeps {G : Nat → Prop} (h : OwR w base e k A n c rs) (hk : Keeps G w w') (hG : ∀ k, base ≤ k → ¬ G k) : OwR w' base e k A n c rs := ⟨h.1, h.2.1, Own.keeps h.2.2 hk hG⟩
theorem OwR.blk (h : OwR w base e k A n c rs) (hn : 0 < n) : ∃ g, A = some ⟨g, 0, none⟩ ∧ base ≤ g ∧ g < w.heap.size := by
  rcases h.2.2.2 with ⟨hv, h0⟩ | ⟨g, cap, cur, fz, hv, hbg, _⟩
  · omega
  · injection hv with h1
    subst h1
    exact ⟨g, rfl, hbg, (Own.lt h.2.2 g rfl).2⟩
theorem OwR.rd (h : OwR w base e k A n c rs) : RdR w w.heap.size k A n rs := by
  refine ⟨h.1, h.2.1, fun hn => ?_⟩
  obtain ⟨g, hA, _, hlt⟩ := h.blk hn
  subst hA
  refine ⟨g, 0, rfl, hlt, fun i j r v hr hv => ?_⟩
  have h1 := Own.cells h.2.2 (g := g) rfl _ v (flatK_at h.1 i j r v hr hv)
  rw [add_plain] at h1
  rw [Nat.add_assoc]
  exact h1
/-- A row of one element that was just laid. -/
theorem Src.oneR {P : Program} (w : World) (u e : TypeId) (hu : P.underlying u = some (.slice e)) (r : List Value) (hr : r.length = k) (h1 : ∀ v ∈ r, v.oneCell' = true) (C : Array Value) (hC : C.toList = r) (t : TypeId) :
    Src P (w.alloc (.cells C t)) u k (.slice (some ⟨w.heap.size, 0, none⟩) 1 1) 1 r := by
  refine Src.ofReads (B := w.heap.size + 1) (c := 1) u e hu ⟨by omega, fun _ => ⟨_, rfl, by simp, fun j v hv => ?_⟩⟩ h1
  rw [add_plain, Nat.zero_add]
  rw [← hC] at hv
  have : (w.alloc (.cells C t)).heap[w.heap.size]? = some (.cells C t) := heap_alloc_new w _
  simp only [World.cell?, this]
  simpa using hv
end
/-- append of one struct onto a row of the call's own. -/
theorem wpList_appendR {P : Program} {w : World} {ops : Array Oper} {rest : List Oper} {o : Oper} {a : Act} {Q : Exit → Act → World → Prop} {t e : TypeId} {z : Value} {k bytes : Nat} (el : Elem P t e z k bytes)
    (hgd : o.guard = none) (s x : Operand) (u : TypeId) (ho : o.op = .call { callee := .builtin .append, args := #[s, x], argTypes := #[t, u] })
    (base : Nat) (A0 : Option Addr) (n0 c0 : Nat) (rs : List (List Value)) (hs : a.eval s = .slice A0 n0 c0) (hown : OwR w base e k A0 n0 c0 rs)
    (xv : Value) (hx : a.eval x = xv) (r : List Value) (hr : r.length = k) (hsrc : Src P w u k xv 1 r)
    (h63 : n0 + 1 ≤ 1073741824) (hby : bytes ≤ 65536) (hbase : base ≤ w.heap.size)
    (h : ∀ (A : Option Addr) (n c : Nat) (rs' : List (List Value)) (w' : World), Hid (rs' = rs ++ [r]) → Hid (n = n0 + 1) → OwR w' base e k A n c rs' → Below base w w' → w.grownBy w' (A0.map (·.block)) →
      wpList P ops Q rest (a.put o.dst (.slice A n c)) w') : wpList P ops Q (o :: rest) a w := by
  refine wpList_append_mine el hgd s x u ho base (.slice A0 n0 c0) n0 rs.flatten hs hown.2.2 xv hx 1 r hsrc h63 hby hbase ?_
  intro A c w' ho' hg _
  have hrr : (Value.slice A0 n0 c0).ownBlock = A0.map (·.block) := by cases A0 <;> rfl
  rw [hrr] at hg
  refine h A (n0 + 1) c (rs ++ [r]) w' rfl rfl ⟨?_, by simp [hown.2.1], by simpa using ho'⟩ ⟨hg.os, hg.tape, hg.output, hg.size, fun k hk => hg.block k (by omega) (fun e => ?_)⟩ hg
  · intro q hq
    rcases List.mem_append.1 hq with hq | hq
    · exact hown.1 q hq
    · obtain rfl : q = r := by simpa using hq
      exact hr
  · have := (Own.lt hown.2.2 k (by rw [hrr]; exact e.symm)).1
    omega

theorem Blk.loadVar {P : Program} {w : World} {g : Nat} {t : TypeId} {cs : List Value} (h : Blk w g t cs) (hs : (P.info? t).map (·.size) = some cs.length) (ha : ∀ w, (isAgg t).run P w = .ok true w) :
    (loadVar t ⟨g, 0, none⟩).run P w = .ok (.agg cs.toArray) w := by
  obtain ⟨i, hi, hsz⟩ := Option.map_eq_some_iff.1 hs
  have hl := run_loadCells_list (P := P) w ⟨g, 0, none⟩ cs (fun k v hk => by
    have h1 := h.cell k v hk
    have h2 : (⟨g, 0, none⟩ : Addr).add k = ⟨g, k, none⟩ := by
      rcases Nat.eq_zero_or_pos k with rfl | hk
      · rfl
      · simp [Addr.add]; omega
    rw [h2]; exact h1)
  simp [Go.loadVar, ha, sizeOf, typeInfo, hi, hsz, hl]
theorem Blk.load {P : Program} {w : World} {g : Nat} {t : TypeId} {cs : List Value} (h : Blk w g t cs) (hs : (P.info? t).map (·.size) = some cs.length) (ha : ∀ w, (isAgg t).run P w = .ok true w) :
    (Instr.loadAt t (.pointer (some ⟨g, 0, none⟩))).run P w = .ok (.agg cs.toArray) w := by
  simp [Instr.loadAt, Instr.sureAddr, h.loadVar hs ha]
theorem wpList_loadBlk {P : Program} {w : World} {ops : Array Oper} {rest : List Oper} {o : Oper} {a : Act} {Q : Exit → Act → World → Prop} (hgd : o.guard = none) (x : Operand) {t : TypeId} (ho : o.op = .load t x)
    {g : Nat} {cs : List Value} (hx : a.eval x = .pointer (some ⟨g, 0, none⟩)) (hs : (P.info? t).map (·.size) = some cs.length) (ha : ∀ w, (isAgg t).run P w = .ok true w) (h : Blk w g t cs)
    (k : wpList P ops Q rest (a.put o.dst (.agg cs.toArray)) w) : wpList P ops Q (o :: rest) a w := by
  refine wpList_plain hgd fun K hK => ?_
  unfold Oper.wp execOp
  simp only [ho, hx, h.load hs ha, Sem.run_bind, Result.andThen_ok, Sem.run_pure]
  exact hK _ _ k
/-- A function's one result, a struct's cell known whole. -/
theorem results_cellBlk {P : Program} {w : World} {fn : Func} {tmps : Array Value} {s g : Nat} {t : TypeId} {cs : List Value} (hr : fn.results = #[.cell s t]) (ht : tmps.getD s undef = .pointer (some ⟨g, 0, none⟩)) (h : Blk w g t cs) (hs : (P.info? t).map (·.size) = some cs.length) (ha : ∀ w, (isAgg t).run P w = .ok true w) :
    (results fn tmps).run P w = .ok (.agg cs.toArray) w := by
  have hv := h.loadVar hs ha
  have hq : (asAddr (tmps.getD s undef)).run P w = .ok ⟨g, 0, none⟩ w := by rw [ht]; rfl
  simp only [results, hr]
  simp [-Array.getD_eq_getD_getElem?, hq, hv]

section
variable {P : Program} {ops : Array Oper} {Q : Exit → Act → World → Prop} {md : Region.Mode} {S : World → Prop}
/-- The run's result comes to v, and the world is as it was. -/
def Gives (P : Program) (r : Result Next) (v : Value) (w : World) : Prop :=
  r = .ok (.value v) w ∨ ∃ f args, r = .ok (.enter f args) w ∧ Calls P f args w fun e w' => e = .returned v ∧ w = w'
def YieldsC (P : Program) (ops : Array Oper) (S : World → Prop) (o : Oper) (v : Value) (a : Act) : Prop :=
  (Region.wanted o (yielded ops a.tmps) = true ∧ ∀ w, S w → Gives P ((execOp a.eval o).run P w) v w) ∨
  (Region.wanted o (yielded ops a.tmps) = false ∧ v = undef)
theorem YieldsC.wpOp {i : Nat} {o : Oper} {v : Value} {a : Act} (hi : ops[i]? = some o) (hy : YieldsC P ops S o v a)
    {K : Act → World → Prop} {w : World} (hS : S w) (h : K (a.put o.dst v) w) : wpOp P ops Q i K a w := by
  unfold Go.wpOp
  simp only [hi]
  rcases hy with ⟨hw, hv⟩ | ⟨hw, rfl⟩
  · simp only [hw, if_true]
    refine .inl ?_
    unfold Oper.wp
    rcases hv w hS with hr | ⟨f, args, hr, hc⟩
    · rw [hr]; exact h
    · rw [hr]
      refine Calls.mono hc fun e w' he => ?_
      obtain ⟨rfl, rfl⟩ := he
      exact h
  · simp only [hw, Bool.false_eq_true, if_false]; exact h
theorem YieldsC.of_same {o : Oper} {v : Value} {a a' : Act} (hy : YieldsC P ops S o v a) (he : execOp a'.eval o = execOp a.eval o)
    (hw : Region.wanted o (yielded ops a'.tmps) = Region.wanted o (yielded ops a.tmps)) : YieldsC P ops S o v a' := by
  unfold YieldsC at *
  rw [he, hw]
  exact hy
theorem wpOp_putC {j : Nat} {oi oj : Oper} {v : Value} (hj : ops[j]? = some oj) (hap : oi.apart ops oj = true)
    (hsi : ∀ cs b, oi.op ≠ .select cs b) (hsj : ∀ cs b, oj.op ≠ .select cs b)
    (hQ : ∀ c a w, Q (.panic c) (a.put oi.dst v) w → Q (.panic c) a w) {K : Act → World → Prop} {a : Act} {w : World}
    (hy : YieldsC P ops S oi v a) (h : wpOp P ops Q j K (a.put oi.dst v) w) :
    wpOp P ops Q j (fun a' w' => YieldsC P ops S oi v a' ∧ K (a'.put oi.dst v) w') a w := by
  obtain ⟨h1, h2, h3⟩ := Oper.apart_spec hap
  have keep : ∀ (a : Act), YieldsC P ops S oi v a → ∀ u, YieldsC P ops S oi v (a.put oj.dst u) := fun a hy u =>
    hy.of_same (execOp_put oi hsi a oj.dst u h3) (wanted_put oi a oj.dst u h3)
  have keepD : ∀ d, YieldsC P ops S oi v { a with defers := d :: a.defers } := fun d => hy.of_same rfl rfl
  unfold wpOp at *
  simp only [hj] at *
  rw [wanted_put oj a oi.dst v h1] at h
  split
  · rename_i hw
    simp only [hw, if_true] at h
    rcases h with h | ⟨hasks, hlets⟩
    case inr => exact .inr ⟨by unfold Oper.asks at *; rw [execOp_put oj hsj a oi.dst v h1] at hasks; exact hasks, hlets⟩
    refine .inl ?_
    unfold Oper.wp at *
    rw [execOp_put oj hsj a oi.dst v h1] at h
    generalize (execOp a.eval oj).run P w = r at *
    cases r with
    | ok n w' =>
      cases n <;> simp only [Oper.upon] at h ⊢
      case value u => exact ⟨keep a hy u, by rw [← Act.put_comm a v u h2]; exact h⟩
      case skip => exact ⟨keep a hy _, by rw [← Act.put_comm a v undef h2]; exact h⟩
      case defer d =>
        refine ⟨keep _ (keepD d) _, ?_⟩
        rw [← Act.put_comm _ v undef h2, ← Act.put_defers]
        exact h
      case enter f args =>
        refine Calls.mono h fun e w'' he => ?_
        cases e with
        | returned u => exact ⟨keep a hy u, by rw [← Act.put_comm a v u h2]; exact he⟩
        | panicked c => exact hQ _ _ _ he
        | outgrown => exact he
      case row row args => exact Rows.mono h fun u w'' he => ⟨keep a hy u, by rw [← Act.put_comm a v u h2]; exact he⟩
    | halt x w' =>
      cases x <;> simp only [Oper.upon] at h ⊢
      case panic u => exact hQ _ _ _ h
  · rename_i hw
    simp only [hw] at h
    exact ⟨keep a hy _, by rw [← Act.put_comm a v undef h2]; exact h⟩
theorem wpAnyC_first {i : Nat} {oi : Oper} {v : Value} (hi : ops[i]? = some oi) (hsel : ∀ (j : Nat) (o : Oper) cs b, ops[j]? = some o → o.op ≠ .select cs b)
    (hQ : ∀ c a w, Q (.panic c) (a.put oi.dst v) w → Q (.panic c) a w) :
    ∀ (fuel : Nat) (listed : Array Bool) (a : Act) (w : World),
      (∀ j oj, ops[j]? = some oj → j ≠ i → listed.getD j true = false → (∀ e ∈ oj.after, Region.binds md e = true → e.on ≠ i) → oi.apart ops oj = true) →
      i ∈ Region.ready md ops listed → YieldsC P ops S oi v a → S w →
      wpAnyH P md ops Q S fuel (listed.setIfInBounds i true) (a.put oi.dst v) w → wpAnyH P md ops Q S (fuel + 1) listed a w := by
  intro fuel
  induction fuel with
  | zero =>
    intro listed a w _ hr hy hS H
    refine ⟨fun h => (by rw [h] at hr; cases hr), fun j hj => ?_⟩
    by_cases hji : j = i
    · subst hji; exact hy.wpOp hi hS ⟨hS, H⟩
    · have := ready_mono hj hji
      rw [H.1] at this
      cases this
  | succ fuel ih =>
    intro listed a w hfree hr hy hS H
    refine ⟨fun h => (by rw [h] at hr; cases hr), fun j hj => ?_⟩
    by_cases hji : j = i
    · subst hji; exact hy.wpOp hi hS ⟨hS, H⟩
    · have h1 := H.2 j (ready_mono hj hji)
      obtain ⟨hjun, oj, hoj, hall⟩ := mem_ready.1 hj
      have hnot : ∀ e ∈ oj.after, Region.binds md e = true → e.on ≠ i := fun e he hb heq => by
        have h1 := hall e he hb
        have h0 := (mem_ready.1 hr).1
        rw [heq] at h1
        rcases Nat.lt_or_ge i listed.size with h' | h'
        · simp [h'] at h0 h1; rw [h0] at h1; cases h1
        · simp [Array.getElem?_eq_none h'] at h1
      have h2 := wpOp_putC hoj (hfree j oj hoj hji hjun hnot) (fun cs b => hsel i oi cs b hi) (fun cs b => hsel j oj cs b hoj) hQ hy h1
      have hfree' : ∀ k ok, ops[k]? = some ok → k ≠ i → (listed.setIfInBounds j true).getD k true = false →
          (∀ e ∈ ok.after, Region.binds md e = true → e.on ≠ i) → oi.apart ops ok = true := fun k ok hk hki hun hno => by
        refine hfree k ok hk hki ?_ hno
        by_cases hjk : j = k
        · subst hjk; exact hjun
        · rw [getD_set_ne true hjk] at hun; exact hun
      refine wpOp_mono (fun a' w' h3 => ⟨h3.2.1, ih (listed.setIfInBounds j true) a' w' hfree' (ready_mono hr (Ne.symm hji)) h3.1 h3.2.1 ?_⟩) h2
      rw [Array.setIfInBounds_comm _ _ hji]
      exact h3.2.2
/-- Take number i first. -/
theorem rg_take {i : Nat} {oi : Oper} {v : Value} {d : Option Tmp} {fuel : Nat} {listed : Array Bool} {a : Act} {w : World} (hi : ops[i]? = some oi) (hd : oi.dst = d)
    (hs : Region.noSelect ops = true) (hf : Region.free md ops listed i = true) (hr : (Region.ready md ops listed).contains i = true)
    (hQ : ∀ c a w, Q (.panic c) (a.put d v) w → Q (.panic c) a w) (hS : S w) (hy : YieldsC P ops S oi v a)
    (h : wpAnyH P md ops Q S fuel (listed.setIfInBounds i true) (a.put d v) w) : wpAnyH P md ops Q S (fuel + 1) listed a w := by
  subst hd
  exact wpAnyC_first hi (Region.noSelect_spec hs) hQ fuel listed a w (Region.free_spec hi hf) (by simpa using hr) hy hS h
end

/-- The blocks from g on. -/
def From (g : Nat) : Nat → Prop := fun k => g ≤ k
theorem keeps_below {G : Nat → Prop} {B : Nat} {w w' : World} (h : Below B w w') (hG : ∀ k, ¬ G k → k < B) : Keeps G w w' := ⟨h.os, h.tape, h.output, h.size, fun k _ hn => h.block k (hG k hn)⟩
/-- A plan that parts: taken first; a quiet call taken first; alone; one of two. -/
inductive Tq where
  | nil
  | t (i : Nat) (r : Tq)
  | q (i : Nat) (r : Tq)
  | s (i : Nat) (r : Tq)
  | b (i : Nat) (r : Tq) (j : Nat) (r' : Tq)
section
variable {P : Program} {ops : Array Oper} {Q : Exit → Act → World → Prop} {G : Nat → Prop}
def wpTq (P : Program) (ops : Array Oper) (Q : Exit → Act → World → Prop) (G : Nat → Prop) : Tq → Act → World → Prop
  | .nil, a, w => Q .normal a w
  | .t i r, a, w => ∃ o, ops[i]? = some o ∧ wpQuiet P ops (fun w' => ∃ p : Abv G w, w' = p.val) (fun a' => wpTq P ops Q G r a' w) [o] a
  | .q i r, a, w => ∃ o v, ops[i]? = some o ∧ YieldsC P ops (fun W => Keeps G w W) o v a ∧ wpTq P ops Q G r (a.put o.dst v) w
  | .s i r, a, w => ∃ o, ops[i]? = some o ∧ wpList P ops (Solo G w (wpTq P ops Q G r)) [o] a w
  | .b i r j r', a, w => ∃ oi oj, ops[i]? = some oi ∧ ops[j]? = some oj ∧ wpList P ops (Solo G w (wpTq P ops Q G r)) [oi] a w ∧ wpList P ops (Solo G w (wpTq P ops Q G r')) [oj] a w
def tqB (ops : Array Oper) : Tq → Array Bool → Bool
  | .nil, listed => (Region.ready .any ops listed).isEmpty
  | .t i r, listed => (Region.ready .any ops listed).contains i && Region.free .any ops listed i && ((ops[i]?).map noCall).getD false && tqB ops r (listed.setIfInBounds i true)
  | .q i r, listed => (Region.ready .any ops listed).contains i && Region.free .any ops listed i && tqB ops r (listed.setIfInBounds i true)
  | .s i r, listed => (Region.ready .any ops listed == [i]) && tqB ops r (listed.setIfInBounds i true)
  | .b i r j r', listed => (Region.ready .any ops listed == [i, j]) && tqB ops r (listed.setIfInBounds i true) && tqB ops r' (listed.setIfInBounds j true)
def tqLen : Tq → Nat
  | .nil => 0
  | .t _ r => tqLen r + 1
  | .q _ r => tqLen r + 1
  | .s _ r => tqLen r + 1
  | .b _ r _ r' => max (tqLen r) (tqLen r') + 1
theorem tq_take {i : Nat} {o : Oper} {r : Tq} {a : Act} {w : World} (ho : ops[i]? = some o)
    (h : wpQuiet P ops (fun w' => ∃ p : Abv G w, w' = p.val) (fun a' => wpTq P ops Q G r a' w) [o] a) : wpTq P ops Q G (.t i r) a w := ⟨o, ho, h⟩
theorem tq_solo {i : Nat} {o : Oper} {r : Tq} {a : Act} {w : World} (ho : ops[i]? = some o)
    (h : wpList P ops (Solo G w (wpTq P ops Q G r)) [o] a w) : wpTq P ops Q G (.s i r) a w := ⟨o, ho, h⟩
theorem tq_both {i j : Nat} {oi oj : Oper} {r r' : Tq} {a : Act} {w : World} (hi : ops[i]? = some oi) (hj : ops[j]? = some oj)
    (h1 : wpList P ops (Solo G w (wpTq P ops Q G r)) [oi] a w) (h2 : wpList P ops (Solo G w (wpTq P ops Q G r')) [oj] a w) : wpTq P ops Q G (.b i r j r') a w := ⟨oi, oj, hi, hj, h1, h2⟩
theorem tq_end {a : Act} {w : World} (h : Q .normal a w) : wpTq P ops (OnlyN Q) G .nil a w := h
/-- A quiet call taken first: in every world it hands on v and leaves the world as it was. -/
theorem tq_call {i : Nat} {o : Oper} {d : Option Tmp} {r : Tq} {a : Act} {w : World} (ho : ops[i]? = some o) (hd : o.dst = d) (hw : Region.wanted o (yielded ops a.tmps) = true)
    (f : FuncId) (args : Array Value) (v : Value) (hrun : ∀ W, (execOp a.eval o).run P W = .ok (.enter f args) W) (hc : ∀ W, Keeps G w W → Calls P f args W fun e w' => e = .returned v ∧ W = w')
    (h : wpTq P ops Q G r (a.put d v) w) : wpTq P ops Q G (.q i r) a w := by
  subst hd
  exact ⟨o, v, ho, .inl ⟨hw, fun W hW => .inr ⟨f, args, hrun W, hc W hW⟩⟩, h⟩
theorem tq_val {i : Nat} {o : Oper} {d : Option Tmp} {r : Tq} {a : Act} {w : World} (ho : ops[i]? = some o) (hd : o.dst = d) (hw : Region.wanted o (yielded ops a.tmps) = true)
    (v : Value) (hrun : ∀ W, (execOp a.eval o).run P W = .ok (.value v) W) (h : wpTq P ops Q G r (a.put d v) w) : wpTq P ops Q G (.q i r) a w := by
  subst hd
  exact ⟨o, v, ho, .inl ⟨hw, fun W hW => .inl (hrun W)⟩, h⟩
theorem tq_sound (hs : Region.noSelect ops = true) : ∀ (plan : Tq) (fuel : Nat) (listed : Array Bool) (a : Act) (w : World), tqLen plan ≤ fuel → tqB ops plan listed = true → wpTq P ops (OnlyN Q) G plan a w →
    wpAnyH P .any ops (OnlyN Q) (fun W => Keeps G w W) fuel listed a w
  | .nil, fuel, listed, a, w, _, hB, h => wpAnyH_done (by simpa [tqB] using hB) h fuel
  | .t i r, 0, _, _, _, hf, _, _ => by simp [tqLen] at hf
  | .q i r, 0, _, _, _, hf, _, _ => by simp [tqLen] at hf
  | .s i r, 0, _, _, _, hf, _, _ => by simp [tqLen] at hf
  | .b i r j r', 0, _, _, _, hf, _, _ => by simp [tqLen] at hf
  | .t i r, fuel + 1, listed, a, w, hf, hB, h => by
    obtain ⟨o, ho, hq⟩ := h
    simp only [tqB, Bool.and_eq_true, ho, Option.map_some, Option.getD_some] at hB
    obtain ⟨⟨⟨hr, hfr⟩, hn⟩, hB⟩ := hB
    have hlen : tqLen r ≤ fuel := by simpa [tqLen] using hf
    simp only [wpQuiet] at hq
    split at hq
    · rename_i hw
      obtain ⟨v, hv, hnext⟩ := hq
      exact wpAnyH_take ho hs hfr hr (fun _ _ _ h => h) (yields_of hn hw (fun W hW => rg_iff.2 hW) hv) (Keeps.refl _ _) (tq_sound hs r fuel _ _ _ hlen hB hnext)
    · rename_i hw
      exact wpAnyH_take ho hs hfr hr (fun _ _ _ h => h) (.inr ⟨by simpa using hw, rfl⟩) (Keeps.refl _ _) (tq_sound hs r fuel _ _ _ hlen hB hq)
  | .q i r, fuel + 1, listed, a, w, hf, hB, h => by
    obtain ⟨o, v, ho, hy, hnext⟩ := h
    simp only [tqB, Bool.and_eq_true] at hB
    obtain ⟨⟨hr, hfr⟩, hB⟩ := hB
    have hlen : tqLen r ≤ fuel := by simpa [tqLen] using hf
    exact rg_take ho rfl hs hfr hr (fun _ _ _ h => h) (Keeps.refl _ _) hy (tq_sound hs r fuel _ _ _ hlen hB hnext)
  | .s i r, fuel + 1, listed, a, w, hf, hB, h => by
    obtain ⟨o, ho, hq⟩ := h
    simp only [tqB, Bool.and_eq_true, beq_iff_eq] at hB
    obtain ⟨hr, hB⟩ := hB
    have hlen : tqLen r ≤ fuel := by simpa [tqLen] using hf
    refine wpAnyH_all hr (by simp) fun k hk => ?_
    obtain rfl : k = i := by simpa using hk
    exact op_sound ho (fun a' w' hb hk' => ⟨hb, wpAnyH_weaken (fun W hW => hb.trans hW) _ _ _ _ (tq_sound hs r fuel _ _ _ hlen hB hk')⟩) hq
  | .b i r j r', fuel + 1, listed, a, w, hf, hB, h => by
    obtain ⟨oi, oj, hoi, hoj, h1, h2⟩ := h
    simp only [tqB, Bool.and_eq_true, beq_iff_eq] at hB
    obtain ⟨⟨hr, hBi⟩, hBj⟩ := hB
    have hlen : tqLen r ≤ fuel ∧ tqLen r' ≤ fuel := by simp only [tqLen] at hf; omega
    refine wpAnyH_all hr (by simp) fun k hk => ?_
    have hk' : k = i ∨ k = j := by simpa using hk
    rcases hk' with rfl | rfl
    · exact op_sound hoi (fun a' w' hb hk' => ⟨hb, wpAnyH_weaken (fun W hW => hb.trans hW) _ _ _ _ (tq_sound hs r fuel _ _ _ hlen.1 hBi hk')⟩) h1
    · exact op_sound hoj (fun a' w' hb hk' => ⟨hb, wpAnyH_weaken (fun W hW => hb.trans hW) _ _ _ _ (tq_sound hs r' fuel _ _ _ hlen.2 hBj hk')⟩) h2
/-- The region, by such a plan. -/
theorem wp_region_tq (G : Nat → Prop) {id : Nat} {a : Act} {w : World} (plan : Tq) (hm : P.follows .mixedOrders = true) (hB : (Region.noSelect ops && (decide (tqLen plan ≤ ops.size) && tqB ops plan (Array.replicate ops.size false))) = true)
    (h : wpTq P ops (OnlyN Q) G plan a w.drew) : (Code.region id ops true).wp P Q a w := by
  simp only [Bool.and_eq_true, decide_eq_true_eq] at hB
  obtain ⟨h1, h2, h3⟩ := hB
  exact Code.wp_mono OnlyN.imp (wp_region_held (S := fun W => Keeps G w.drew W) hm (tq_sound h1 plan _ _ _ _ h2 h3 h))
end
end Go.Proofs.Ytoplkglnjgllnaa
