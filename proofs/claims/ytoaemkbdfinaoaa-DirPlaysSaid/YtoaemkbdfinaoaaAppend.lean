/-
  append, copy, make, conversions: one law for every source.
-/
import Derived.Test.YtoaemkbdfinaoaaBase
import Derived.Lib.AppendStr
namespace Go.Proofs.Ytoaemkbdfinaoaa
open Go.RowKit
set_option linter.unusedVariables false

/-- What is appended or copied: the value x of type u tells m elements, the cells news; the world may have drawn. -/
structure Src (P : Program) (w : World) (u : TypeId) (size : Nat) (x : Value) (m : Nat) (news : List Value) : Prop where
  type : P.underlying u = some .string ∨ ∃ e, P.underlying u = some (.slice e)
  len : ∀ w' : World, (Builtin.lenOf x).run P w' = .ok m w'
  first : (Builtin.firstCells size m x).run P w = .ok news.toArray w
  first' : (Builtin.firstCells size m x).run P w.drew = .ok news.toArray w.drew
  one : ∀ v ∈ news, v.oneCell' = true
  length : news.length = m * size

theorem Src.ofReads {P : Program} {w : World} {B size n c : Nat} {A : Option Addr} {xs : List Value} (u e : TypeId) (hu : P.underlying u = some (.slice e)) (h : Reads w B size A n xs) (h1 : ∀ v ∈ xs, v.oneCell' = true) :
    Src P w u size (.slice A n c) n xs := by
  have key : ∀ w' : World, (∀ p, w'.cell? p = w.cell? p) → (Builtin.firstCells size n (.slice A n c)).run P w' = .ok xs.toArray w' := by
    intro w' hw
    rcases Nat.eq_zero_or_pos n with hn | hn
    · subst hn
      have hx : xs = [] := List.eq_nil_of_length_eq_zero (by have := h.1; simpa using this)
      subst hx
      cases A <;> simp [Builtin.firstCells, loadCells, loadCellsFrom]
    · obtain ⟨ad, rfl, _, hc⟩ := h.2 hn
      exact run_firstCells_some (P := P) w' size n ad n c xs h.1 (fun j v hv => by rw [hw]; exact hc j v hv)
  exact ⟨.inr ⟨_, hu⟩, fun w' => by simp [Builtin.lenOf], key w fun _ => rfl, key w.drew fun _ => rfl, h1, h.1⟩

theorem Src.ofString {P : Program} (w : World) (u : TypeId) (hu : P.underlying u = some .string) (s : ByteArray) : Src P w u 1 (.string s) s.size (Lib.strCells s) :=
  ⟨.inl hu, fun w' => by simp [Builtin.lenOf], Lib.run_firstCells_string w 1 s, Lib.run_firstCells_string w.drew 1 s, Lib.strCells_oneCell s, by rw [Lib.strCells_length, Nat.mul_one]⟩

section
variable {P : Program} (w : World)

/-- The arm that grows, over any source and any old row that reads. -/
theorem run_append_new (base : Nat) (t u ty e : TypeId) (i : TypeInfo) (z : Value) (size bytes : Nat) (ht : P.underlying t = some (.slice e)) (hi : P.info? e = some i) (hz : i.zero = some z)
    (hsize : i.size = size) (hby : i.bytes = bytes) (hzs : z.cells.size = size)
    (A : Option Addr) (n cap B : Nat) (xs : List Value) (hr : Reads w B size A n xs)
    (x : Value) (m : Nat) (news : List Value) (hsrc : Src P w u size x m news)
    (hgrow : cap < n + m) (h63 : n + m ≤ maxLen) (hbytes : (n + m) * bytes ≤ 140737488355328) (hbase : base ≤ w.heap.size) :
    ∃ v' w', (Builtin.append_ #[t, u] ty #[.slice A n cap, x]).run P w = .ok v' w' ∧ Own w' base e size v' (n + m) (xs ++ news) ∧ Below w.heap.size w w' ∧ v'.ownBlock = some w.heap.size := by
  subst hsize
  subst hby
  have hsmall : n + m ≤ 9223372036854775807 := by simp only [maxLen] at h63; omega
  have hn : ¬ (n + m ≤ cap) := by omega
  have h63' : ¬ (9223372036854775807 < ((n : Int) + (m : Int))) := by omega
  have h48' : ¬ (281474976710656 < Builtin.nextslicecap (n + m) cap * i.bytes) := by have := growslice_fits (need := n + m) (old := cap) (bytes := i.bytes) (by omega) hbytes; omega
  have hlen : (xs ++ news).length = (n + m) * i.size := by rw [List.length_append, hr.1, hsrc.length, Nat.add_mul]
  have hf := hsrc.first'
  have hl := hsrc.len
  have hfo : (Builtin.firstCells i.size n (.slice A n cap)).run P w.drew = .ok xs.toArray w.drew := by
    rcases Nat.eq_zero_or_pos n with h0 | h0
    · subst h0
      have hx : xs = [] := List.eq_nil_of_length_eq_zero (by have := hr.1; simpa using this)
      subst hx
      cases A <;> simp [Builtin.firstCells, loadCells, loadCellsFrom]
    · obtain ⟨ad, rfl, _, hc⟩ := hr.2 h0
      exact run_firstCells_some (P := P) w.drew i.size n ad n cap xs hr.1 (fun j v hv => hc j v hv)
  have hge := grownCap_ge w (n + m) cap e
  have hcm := grownCap_le_maxLen w (n + m) cap e h63
  refine ⟨.slice (some ⟨w.heap.size, 0, none⟩) (n + m) (grownCap w (n + m) cap e), w.drew.alloc (.cells (xs.toArray ++ news.toArray ++ Builtin.zeroCells z.cells (grownCap w (n + m) cap e - (n + m))) e), ?_, ?_, ?_, rfl⟩
  · rcases hsrc.type with hd | ⟨d, hd⟩ <;>
      (simp [Builtin.append_, run_underlying ht, run_underlying hd, sizeOf, typeInfo, zeroValue, hi, hz, hl, hn, h63', h48', Question.forced, hf, hfo, newRow, grownCap]
       congr 2
       apply Array.ext'
       simp [List.append_assoc])
  · refine ⟨hlen, .inr ⟨w.heap.size, _, _, (0, 0), rfl, hbase, heap_alloc_new w.drew _, .inl (Nat.le_refl _), hge, hcm, ?_, ?_⟩⟩
    · simp only [Array.size_append, List.size_toArray, size_zeroCells, hzs, hr.1, hsrc.length, ← Nat.add_mul]
      congr 1
      omega
    · simp only [Array.toList_append, List.append_assoc]
      rw [← List.append_assoc, ← hlen]
      exact List.take_left
  · exact ((Below.refl _ w).drew).alloc (Nat.le_refl _) _

/-- The arm with room: the row is the call's own. -/
theorem run_append_in (base : Nat) (t u ty e : TypeId) (i : TypeInfo) (size : Nat) (ht : P.underlying t = some (.slice e)) (hi : P.info? e = some i)
    (hsize : i.size = size) (g n cap : Nat) (xs : List Value) (hown : Own w base e size (.slice (some ⟨g, 0, none⟩) n cap) n xs)
    (x : Value) (m : Nat) (news : List Value) (hsrc : Src P w u size x m news) (hroom : n + m ≤ cap) :
    ∃ w', (Builtin.append_ #[t, u] ty #[.slice (some ⟨g, 0, none⟩) n cap, x]).run P w = .ok (.slice (some ⟨g, 0, none⟩) (n + m) cap) w' ∧ Own w' base e size (.slice (some ⟨g, 0, none⟩) (n + m) cap) (n + m) (xs ++ news) ∧ w.grownBy w' (some g) := by
  subst hsize
  rcases hown.2 with ⟨hv, _⟩ | ⟨g', cap', cur, fz, hv, hbg, hg, hfz, hnc, hcm, hcs, htake⟩
  · cases hv
  injection hv with h1 h2 h3
  injection h1 with h1
  injection h1 with h1
  subst h1
  subst h3
  have hfit : n * i.size + news.length ≤ cur.size := by rw [hsrc.length, hcs, ← Nat.add_mul]; exact Nat.mul_le_mul_right _ hroom
  have hlen : (xs ++ news).length = (n + m) * i.size := by rw [List.length_append, hown.1, hsrc.length, Nat.add_mul]
  have hst := run_storeCells_atM P g (n * i.size) e fz news 0 cur w hg hfz (by simpa using hfit) hsrc.one
  simp only [Nat.add_zero] at hst
  have hf := hsrc.first
  have hl := hsrc.len
  refine ⟨w.setRow g (cur.toList.take (n * i.size) ++ news ++ cur.toList.drop (n * i.size + news.length)).toArray, ?_, ⟨hlen, .inr ⟨g, cap, _, fz, rfl, hbg, setRow_heap w g cur _ e _ hg, ?_, hroom, hcm, ?_, ?_⟩⟩, ⟨rfl, rfl, rfl, by simp, fun k _ hk => setRow_other w g k _ (fun e => hk (by rw [e]))⟩⟩
  · rcases hsrc.type with hd | ⟨d, hd⟩ <;> simp [Builtin.append_, run_underlying ht, run_underlying hd, sizeOf, typeInfo, hi, hl, hroom, hf, Addr.add_lit, hst]
  · have : (cur.toList.take (n * i.size) ++ news ++ cur.toList.drop (n * i.size + news.length)).toArray.size = cur.size := by
      simp only [List.size_toArray, List.length_append, List.length_take, List.length_drop, Array.length_toList]; omega
    rw [this]; exact hfz
  · simp only [List.size_toArray, List.length_append, List.length_take, List.length_drop, Array.length_toList]
    omega
  · rw [htake, ← hlen]
    exact List.take_left

theorem own_at_form {base : Nat} {e : TypeId} {size n : Nat} {v : Value} {xs : List Value} {w : World} (h : Own w base e size v n xs) : v = .slice none 0 0 ∧ n = 0 ∨ ∃ g cap, v = .slice (some ⟨g, 0, none⟩) n cap := by
  rcases h.2 with h | ⟨g, cap, cur, fz, hv, _⟩
  · exact .inl h
  · exact .inr ⟨g, cap, hv⟩

theorem run_append_src (base : Nat) (t u ty e : TypeId) (i : TypeInfo) (z : Value) (size bytes : Nat) (ht : P.underlying t = some (.slice e)) (hi : P.info? e = some i) (hz : i.zero = some z)
    (hsize : i.size = size) (hby : i.bytes = bytes) (hzs : z.cells.size = size)
    (v : Value) (n : Nat) (xs : List Value) (hown : Own w base e size v n xs)
    (x : Value) (m : Nat) (news : List Value) (hsrc : Src P w u size x m news)
    (h63 : n + m ≤ maxLen) (hbytes : (n + m) * bytes ≤ 140737488355328) (hbase : base ≤ w.heap.size) :
    ∃ v' w', (Builtin.append_ #[t, u] ty #[v, x]).run P w = .ok v' w' ∧ Own w' base e size v' (n + m) (xs ++ news) ∧ w.grownBy w' v.ownBlock ∧ (v'.ownBlock = v.ownBlock ∨ v'.ownBlock = some w.heap.size) := by
  rcases own_at_form hown with ⟨rfl, rfl⟩ | ⟨g, cap, rfl⟩
  · have hx : xs = [] := List.eq_nil_of_length_eq_zero (by simpa using hown.1)
    subst hx
    rcases Nat.eq_zero_or_pos m with hm | hm
    · subst hm
      have hn : news = [] := List.eq_nil_of_length_eq_zero (by simpa using hsrc.length)
      subst hn
      refine ⟨.slice none 0 0, w, ?_, Own.nil w base e size, ⟨rfl, rfl, rfl, Nat.le_refl _, fun _ _ _ => rfl⟩, .inl rfl⟩
      have hf := hsrc.first
      have hl := hsrc.len
      subst hsize
      rcases hsrc.type with hd | ⟨d, hd⟩ <;> simp [Builtin.append_, run_underlying ht, run_underlying hd, sizeOf, typeInfo, hi, hl, hf]
    · obtain ⟨v', w', r1, r2, r3, r4⟩ := run_append_new (P := P) w base t u ty e i z size bytes ht hi hz hsize hby hzs none 0 0 0 [] Reads.none_ x m news hsrc (by omega) h63 hbytes hbase
      exact ⟨v', w', r1, r2, ⟨r3.os, r3.tape, r3.output, r3.size, fun k hk _ => r3.block k hk⟩, .inr r4⟩
  · by_cases hroom : n + m ≤ cap
    · obtain ⟨w', r1, r2, r3⟩ := run_append_in (P := P) w base t u ty e i size ht hi hsize g n cap xs hown x m news hsrc hroom
      exact ⟨_, w', r1, r2, r3, .inl rfl⟩
    · obtain ⟨v', w', r1, r2, r3, r4⟩ := run_append_new (P := P) w base t u ty e i z size bytes ht hi hz hsize hby hzs _ n cap _ xs hown.reads x m news hsrc (by omega) h63 hbytes hbase
      exact ⟨v', w', r1, r2, ⟨r3.os, r3.tape, r3.output, r3.size, fun k hk _ => r3.block k hk⟩, .inr r4⟩

end
end Go.Proofs.Ytoaemkbdfinaoaa
