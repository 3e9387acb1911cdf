/-
  Slices of structs: cuts, append of some.
-/
import Derived.Test.YtoaemkbdfinaoaaRowK
namespace Go.Proofs.Ytoaemkbdfinaoaa
open Go.RowKit
set_option linter.unusedVariables false

theorem flatK_split {k : Nat} {rows : List (List Value)} (hk : 0 < k) (h : ∀ r ∈ rows, r.length = k) : ∀ (j : Nat) (v : Value), rows.flatten[j]? = some v → ∃ i j' r, j = i * k + j' ∧ rows[i]? = some r ∧ r[j']? = some v := by
  induction rows with
  | nil => intro j v hv; simp at hv
  | cons r0 rs ih =>
    intro j v hv
    have h0 := h r0 List.mem_cons_self
    simp only [List.flatten_cons] at hv
    rcases Nat.lt_or_ge j r0.length with hj | hj
    · rw [List.getElem?_append_left hj] at hv
      exact ⟨0, j, r0, by omega, rfl, hv⟩
    · rw [List.getElem?_append_right hj] at hv
      obtain ⟨i, j', r, e, hr, hv'⟩ := ih (fun x hx => h x (List.mem_cons_of_mem _ hx)) _ v hv
      exact ⟨i + 1, j', r, by rw [Nat.add_mul]; omega, by simpa using hr, hv'⟩
theorem RdR.reads {w : World} {B k n : Nat} {A : Option Addr} {rs : List (List Value)} (hk : 0 < k) (h : RdR w B k A n rs) : Reads w B k A n rs.flatten := by
  refine ⟨by rw [flatK_length h.1, h.2.1], fun hn => ?_⟩
  obtain ⟨b, off, hA, hb, hc⟩ := h.2.2 hn
  refine ⟨_, hA, hb, fun j u hu => ?_⟩
  obtain ⟨i, j', r, rfl, hr, hv⟩ := flatK_split hk h.1 j u hu
  rw [add_plain, ← Nat.add_assoc]
  exact hc i j' r u hr hv
theorem RdR.src {P : Program} {w : World} {B k n c : Nat} {A : Option Addr} {rs : List (List Value)} (hk : 0 < k) (h : RdR w B k A n rs) (u e : TypeId) (hu : P.underlying u = some (.slice e)) (h1 : ∀ r ∈ rs, ∀ v ∈ r, v.oneCell' = true) : Src P w u k (.slice A n c) n rs.flatten :=
  Src.ofReads u e hu (h.reads hk) (fun v hv => by
    obtain ⟨r, hr, hv'⟩ := List.mem_flatten.1 hv
    exact h1 r hr v hv')
theorem RdR.firstS {w : World} {B k n : Nat} {A : Option Addr} {rs : List (List Value)} (h : RdR w B k A n rs) {m : Nat} (hm : m ≤ n) : RdR w B k A m (rs.take m) := by
  refine ⟨fun r hr => h.1 r (List.mem_of_mem_take hr), by rw [List.length_take, h.2.1]; omega, fun h0 => ?_⟩
  obtain ⟨b, off, hA, hlt, hc⟩ := h.2.2 (by omega)
  refine ⟨b, off, hA, hlt, fun i j r v hr hv => hc i j r v ?_ hv⟩
  rw [List.getElem?_take] at hr
  split at hr
  · exact hr
  · cases hr
/-- From m on, as the model writes the cut. -/
theorem RdR.cut {w : World} {B k n c : Nat} {A : Option Addr} {rs : List (List Value)} (h : RdR w B k A n rs) {m : Nat} (hm : m ≤ n) (hc : n ≤ c) : RdR w B k (if c = m then A else A.map (·.add (m * k))) (n - m) (rs.drop m) := by
  refine ⟨fun r hr => h.1 r (List.mem_of_mem_drop hr), by rw [List.length_drop, h.2.1], fun h0 => ?_⟩
  obtain ⟨b, off, hA, hlt, hcell⟩ := h.2.2 (by omega)
  subst hA
  rw [if_neg (by omega)]
  refine ⟨b, off + m * k, by rw [Option.map_some, add_plain], hlt, fun i j r v hr hv => ?_⟩
  rw [List.getElem?_drop] at hr
  have := hcell (m + i) j r v hr hv
  rw [show off + m * k + i * k + j = off + (m + i) * k + j by rw [Nat.add_mul]; omega]
  exact this

theorem RdR.drewS {w : World} {B k n : Nat} {A : Option Addr} {rs : List (List Value)} (h : RdR w B k A n rs) : RdR w.drew B k A n rs := h
/-- append of some structs onto a row of the call's own. -/
theorem wpList_appendRs {P : Program} {w : World} {ops : Array Oper} {rest : List Oper} {o : Oper} {a : Act} {Q : Exit → Act → World → Prop} {t e : TypeId} {z : Value} {k bytes : Nat} (el : Elem P t e z k bytes)
    (hgd : o.guard = none) (s x : Operand) (u : TypeId) (ho : o.op = .call { callee := .builtin .append, args := #[s, x], argTypes := #[t, u] })
    (base : Nat) (A0 : Option Addr) (n0 c0 : Nat) (rs : List (List Value)) (hs : a.eval s = .slice A0 n0 c0) (hown : OwR w base e k A0 n0 c0 rs)
    (xv : Value) (hx : a.eval x = xv) (m : Nat) (rs2 : List (List Value)) (hrl : ∀ r ∈ rs2, r.length = k) (hm : rs2.length = m) (hsrc : Src P w u k xv m rs2.flatten)
    (h63 : n0 + m ≤ 1073741824) (hby : bytes ≤ 65536) (hbase : base ≤ w.heap.size)
    (h : ∀ (A : Option Addr) (n c : Nat) (rs' : List (List Value)) (w' : World), Hid (rs' = rs ++ rs2) → Hid (n = n0 + m) → OwR w' base e k A n c rs' → Below base w w' → w.grownBy w' (A0.map (·.block)) →
      wpList P ops Q rest (a.put o.dst (.slice A n c)) w') : wpList P ops Q (o :: rest) a w := by
  refine wpList_append_mine el hgd s x u ho base (.slice A0 n0 c0) n0 rs.flatten hs hown.2.2 xv hx m rs2.flatten hsrc h63 hby hbase ?_
  intro A c w' ho' hg _
  have hrr : (Value.slice A0 n0 c0).ownBlock = A0.map (·.block) := by cases A0 <;> rfl
  rw [hrr] at hg
  refine h A (n0 + m) c (rs ++ rs2) w' rfl rfl ⟨?_, by simp [hown.2.1, hm], by simpa using ho'⟩ ⟨hg.os, hg.tape, hg.output, hg.size, fun k hk => hg.block k (by omega) (fun e => ?_)⟩ hg
  · intro q hq
    rcases List.mem_append.1 hq with hq | hq
    · exact hown.1 q hq
    · exact hrl q hq
  · have := (Own.lt hown.2.2 k (by rw [hrr]; exact e.symm)).1
    omega

end Go.Proofs.Ytoaemkbdfinaoaa
