/-
  Layer 11: rows of structs, copied into; Insert.
-/
import Derived.Test.YtoaemkbdfinaoaaDirB
import Derived.Test.YtoaemkbdfinaoaaRowS
import Derived.Lib.AppendZerosOnto
import Derived.Lib.AppendZeros
import Derived.Lib.Overlaps
namespace Go.Proofs.Ytoaemkbdfinaoaa
open Go.RowKit
set_option linter.unusedVariables false
set_option linter.unusedSimpArgs false

/-- A block known whole, of which nothing is frozen. -/
def Row (w : World) (g : Nat) (t : TypeId) (cs : List Value) : Prop := ∃ fz, w.heap[g]? = some (.cells cs.toArray t fz) ∧ NoFz fz cs.length
section
variable {w w' : World} {g : Nat} {t : TypeId} {cs : List Value}
theorem Row.lt (h : Row w g t cs) : g < w.heap.size := by
  obtain ⟨fz, h, _⟩ := h
  exact (Array.getElem?_eq_some_iff.1 h).1
theorem Row.cell (h : Row w g t cs) (i : Nat) (v : Value) (hv : cs[i]? = some v) : w.cell? ⟨g, i, none⟩ = some v := by
  obtain ⟨fz, h, _⟩ := h
  simp [World.cell?, h, hv]
theorem Row.free (h : Row w g t cs) (i : Nat) (hi : i < cs.length) : w.frozen? ⟨g, i, none⟩ = false := by
  obtain ⟨fz, h, hf⟩ := h
  exact NoFz.at_ (by simpa using hf) h hi
theorem Row.setRow (h : Row w g t cs) (cs' : List Value) (hl : cs'.length = cs.length) : Row (w.setRow g cs'.toArray) g t cs' := by
  obtain ⟨fz, h, hf⟩ := h
  exact ⟨fz, setRow_heap w g cs.toArray _ t _ h, by rw [hl]; exact hf⟩
theorem Row.drew (h : Row w g t cs) : Row w.drew g t cs := h
theorem Row.keeps {G : Nat → Prop} (h : Row w g t cs) (k : Keeps G w w') (hG : ¬ G g) : Row w' g t cs := by
  have hl := h.lt
  obtain ⟨fz, h, hf⟩ := h
  exact ⟨fz, (k.block g hl hG).trans h, hf⟩
theorem Row.shape (h : Row w g t cs) : w.shape? g = some (t, cs.length) := by
  obtain ⟨fz, h, _⟩ := h
  simp [World.shape?, h]
theorem OwR.row {base k n c : Nat} {e : TypeId} {A : Option Addr} {rs : List (List Value)} (h : OwR w base e k A n c rs) (hc : 0 < c) : ∃ g tl, A = some ⟨g, 0, none⟩ ∧ base ≤ g ∧ Row w g e (rs.flatten ++ tl) ∧ (rs.flatten ++ tl).length = c * k := by
  rcases h.2.2.2 with ⟨hv, h0⟩ | ⟨g, cap, cur, fz, hv, hbg, hh, hf, hnc, hcm, hcs, htk⟩
  · injection hv with _ _ h3; omega
  · injection hv with h1 h2 h3
    subst h1
    subst h3
    refine ⟨g, cur.toList.drop (n * k), rfl, hbg, ⟨fz, ?_, ?_⟩, ?_⟩
    · rw [← htk, List.take_append_drop]; simpa using hh
    · rw [← htk, List.take_append_drop]; simpa using hf
    · rw [← htk, List.take_append_drop]; simpa using hcs
theorem OwR.ofRow {base k n c : Nat} {e : TypeId} {rs : List (List Value)} (hr : Row w g e cs) (hl : cs.length = c * k) (ht : cs.take (n * k) = rs.flatten) (hk : ∀ r ∈ rs, r.length = k) (hn : rs.length = n) (hnc : n ≤ c) (hcm : c ≤ maxLen) (hb : base ≤ g) : OwR w base e k (some ⟨g, 0, none⟩) n c rs := by
  obtain ⟨fz, h, hf⟩ := hr
  exact ⟨hk, hn, by rw [flatK_length hk, hn], .inr ⟨g, c, cs.toArray, fz, rfl, hb, h, by simpa using hf, hnc, hcm, by simpa using hl, by simpa using ht⟩⟩
end
theorem run_copyRow {P : Program} {w : World} {g o k m : Nat} {t e dT sT ty : TypeId} {cs xs : List Value} (hu : P.underlying dT = some (.slice e)) (hk : (P.info? e).map (·.size) = some k) (h : Row w g t cs) (dl dc sl sc : Nat) (A2 : Option Addr) (hm : Nat.min sl dl = m)
    (hf : (Builtin.firstCells k m (.slice A2 sl sc)).run P w = .ok xs.toArray w) (hx : xs.length = m * k) (hl : o + m * k ≤ cs.length) (h1 : ∀ v ∈ xs, v.oneCell' = true) :
    (Builtin.copy_ #[dT, sT] ty #[.slice (some ⟨g, o, none⟩) dl dc, .slice A2 sl sc]).run P w = .ok (goInt m) (w.setRow g (cs.take o ++ xs ++ cs.drop (o + m * k)).toArray) := by
  obtain ⟨i, hi, hsz⟩ := Option.map_eq_some_iff.1 hk
  obtain ⟨fz, hh, hz⟩ := h
  have hst := run_storeCells_atM P g o t fz xs 0 cs.toArray w hh (by simpa using hz) (by rw [hx]; simpa using hl) h1
  simp only [Nat.add_zero, hx] at hst
  simp only [Builtin.copy_, run_underlying hu, sizeOf, typeInfo, Builtin.lenOf, Sem.run_bind, Result.andThen_ok, Sem.run_pure, List.getElem?_toArray, List.getElem?_cons_zero, List.getElem?_cons_succ]
  simp [hi, hsz, hm, hf, hst]
theorem wpList_copyRow {P : Program} {w : World} {ops : Array Oper} {rest : List Oper} {oo : Oper} {a : Act} {Q : Exit → Act → World → Prop} (hgd : oo.guard = none) (d x : Operand) {dT sT e t : TypeId} (ho : oo.op = .call { callee := .builtin .copy, args := #[d, x], argTypes := #[dT, sT] })
    {g o k : Nat} {cs : List Value} (xs : List Value) (hu : P.underlying dT = some (.slice e)) (hk : (P.info? e).map (·.size) = some k) (h : Row w g t cs) (m dl dc sl sc : Nat) (A2 : Option Addr) (hd : a.eval d = .slice (some ⟨g, o, none⟩) dl dc) (hx : a.eval x = .slice A2 sl sc) (hm : Nat.min sl dl = m)
    (hf : (Builtin.firstCells k m (.slice A2 sl sc)).run P w = .ok xs.toArray w) (hxl : xs.length = m * k) (hl : o + m * k ≤ cs.length) (h1 : ∀ v ∈ xs, v.oneCell' = true)
    (cs' : List Value) (he : cs.take o ++ xs ++ cs.drop (o + m * k) = cs')
    (kk : wpList P ops Q rest (a.put oo.dst (goInt m)) (w.setRow g cs'.toArray)) : wpList P ops Q (oo :: rest) a w := by
  subst he
  refine wpList_plain hgd fun K hK => ?_
  unfold Oper.wp execOp
  simp only [ho, resolve, invoke, builtin, Sem.run_bind, Sem.run_pure, Result.andThen_ok, List.map_toArray, List.map_cons, List.map_nil, hd, hx, run_copyRow (sT := sT) (ty := oo.type) hu hk h dl dc sl sc A2 hm hf hxl hl h1]
  exact hK _ _ kk
theorem first_some {P : Program} (w : World) (k m sl sc b p : Nat) (xs : List Value) (hx : xs.length = m * k) (hc : ∀ j v, xs[j]? = some v → w.cell? ⟨b, p + j, none⟩ = some v) : (Builtin.firstCells k m (.slice (some ⟨b, p, none⟩) sl sc)).run P w = .ok xs.toArray w := by
  have := run_loadCells_list (P := P) w ⟨b, p, none⟩ xs (fun j v hv => by rw [Addr.add_lit]; exact hc j v hv)
  rw [hx] at this
  simpa [Builtin.firstCells] using this

/-- The entries with one more. -/
def insE (es : List EntI) (i : Nat) (e : EntI) : List EntI := es.take i ++ e :: es.drop i
theorem eiC_len (es : List EntI) : ∀ r ∈ es.map eiC, r.length = 3 := by
  intro r hr
  obtain ⟨e, _, rfl⟩ := List.mem_map.1 hr
  rfl
theorem flatE_take (es : List EntI) (i : Nat) (hi : i ≤ es.length) : ((es.map eiC).flatten).take (i * 3) = ((es.take i).map eiC).flatten := by
  induction es generalizing i with
  | nil => simp at hi; subst hi; rfl
  | cons e es ih =>
    cases i with
    | zero => rfl
    | succ i =>
      have := ih i (by simpa using hi)
      rw [List.map_cons, List.flatten_cons, List.take_succ_cons, List.map_cons, List.flatten_cons, show (i + 1) * 3 = (eiC e).length + i * 3 by simp [eiC]; omega, List.take_length_add_append, this]
theorem flatE_drop (es : List EntI) (i : Nat) (hi : i ≤ es.length) : ((es.map eiC).flatten).drop (i * 3) = ((es.drop i).map eiC).flatten := by
  induction es generalizing i with
  | nil => simp at hi; subst hi; rfl
  | cons e es ih =>
    cases i with
    | zero => rfl
    | succ i =>
      have := ih i (by simpa using hi)
      rw [List.map_cons, List.flatten_cons, List.drop_succ_cons, show (i + 1) * 3 = (eiC e).length + i * 3 by simp [eiC]; omega, List.drop_length_add_append, this]
theorem flatE_len (es : List EntI) : ((es.map eiC).flatten).length = es.length * 3 := by rw [flatK_length (eiC_len es), List.length_map]
theorem flatE_one (es : List EntI) : ∀ v ∈ (es.map eiC).flatten, v.oneCell' = true := by
  intro v hv
  obtain ⟨r, hr, hv⟩ := List.mem_flatten.1 hv
  obtain ⟨e, _, rfl⟩ := List.mem_map.1 hr
  exact eiC_one e v hv
end Go.Proofs.Ytoaemkbdfinaoaa
