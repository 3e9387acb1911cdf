/-
  Layer 22: the block of Tags, place.
-/
import Derived.Test.YtgogdgpdkkbfhaaErrIs
import Derived.Test.YtgogdgpdkkbfhaaBlk
import Derived.Test.YtgogdgpdkkbfhaaLawB
import Derived.Deep.MidRow
namespace Go.Proofs.Ytgogdgpdkkbfhaa
open Go.RowKit
set_option linter.unusedVariables false

/-- A struct stored into the middle of a block that is known whole. -/
theorem run_storeMid {P : Program} {w : World} {g o : Nat} {t e : TypeId} {cs xs : List Value} (hs : (P.info? e).map (·.size) = some xs.length) (h : Blk w g t cs) (hl : o + xs.length ≤ cs.length) (h1 : ∀ v ∈ xs, v.oneCell' = true) :
    (Instr.storeAt e (.pointer (some ⟨g, o, none⟩)) (.agg xs.toArray)).run P w = .ok () (w.setRow g (cs.take o ++ xs ++ cs.drop (o + xs.length)).toArray) := by
  obtain ⟨i, hi, hsz⟩ := Option.map_eq_some_iff.1 hs
  have hst := run_storeCells_atM P g o t (0, 0) xs 0 cs.toArray w h (.inl (Nat.le_refl _)) (by simpa using hl) h1
  simp only [Nat.add_zero] at hst
  simp [Instr.storeAt, Instr.sureAddr, storeVar, sizeOf, typeInfo, hi, hsz, Value.cells, hst]
theorem wpList_storeMid {P : Program} {w : World} {ops : Array Oper} {rest : List Oper} {o : Oper} {a : Act} {Q : Exit → Act → World → Prop} (hgd : o.guard = none) (x y : Operand) {e : TypeId} (ho : o.op = .store e x y) (hd : o.dst = none)
    {g off : Nat} {t : TypeId} {cs : List Value} (xs : List Value) (hx : a.eval x = .pointer (some ⟨g, off, none⟩)) (hy : a.eval y = .agg xs.toArray) (hs : (P.info? e).map (·.size) = some xs.length) (h : Blk w g t cs) (hl : off + xs.length ≤ cs.length) (h1 : ∀ v ∈ xs, v.oneCell' = true)
    (k : wpList P ops Q rest a (w.setRow g (cs.take off ++ xs ++ cs.drop (off + xs.length)).toArray)) : wpList P ops Q (o :: rest) a w := by
  refine wpList_plain hgd fun K hK => ?_
  unfold Oper.wp execOp
  simp only [ho, hx, hy, run_storeMid hs h hl h1, Sem.run_bind, Result.andThen_ok, Sem.run_pure]
  refine hK _ _ ?_
  rw [hd]
  exact k

/-! ### rows of one length -/
section
variable {k : Nat} {rows : List (List Value)}
theorem flat_length (h : ∀ r ∈ rows, r.length = k) : rows.flatten.length = k * rows.length := by
  induction rows with
  | nil => simp
  | cons r rs ih =>
    simp only [List.flatten_cons, List.length_append, List.length_cons]
    rw [ih (fun x hx => h x (List.mem_cons_of_mem _ hx)), h r List.mem_cons_self, Nat.mul_add]
    omega
theorem flat_at (h : ∀ r ∈ rows, r.length = k) (tl : List Value) : ∀ (i j : Nat) (r : List Value) (v : Value), rows[i]? = some r → r[j]? = some v → (rows.flatten ++ tl)[i * k + j]? = some v := by
  induction rows with
  | nil => intro i j r v hr; simp at hr
  | cons r0 rs ih =>
    intro i j r v hr hv
    have h0 := h r0 List.mem_cons_self
    cases i with
    | zero =>
      simp at hr
      subst hr
      have hj : j < r0.length := (List.getElem?_eq_some_iff.1 hv).1
      simp only [List.flatten_cons, List.append_assoc, Nat.zero_mul, Nat.zero_add]
      rw [List.getElem?_append_left hj]
      exact hv
    | succ i =>
      simp only [List.getElem?_cons_succ] at hr
      simp only [List.flatten_cons, List.append_assoc]
      rw [List.getElem?_append_right (by rw [Nat.add_mul]; omega)]
      have := ih (fun x hx => h x (List.mem_cons_of_mem _ hx)) i j r v hr hv
      rw [← this]
      congr 1
      rw [Nat.add_mul]
      omega
theorem flat_tail (h : ∀ r ∈ rows, r.length = k) (tl : List Value) (j : Nat) (v : Value) (hv : tl[j]? = some v) : (rows.flatten ++ tl)[rows.length * k + j]? = some v := by
  have hl := flat_length h
  rw [List.getElem?_append_right (by rw [hl, Nat.mul_comm]; omega), hl]
  rw [show rows.length * k + j - k * rows.length = j by rw [Nat.mul_comm]; omega]
  exact hv
theorem flat_set (h : ∀ r ∈ rows, r.length = k) (tl xs : List Value) (hx : xs.length = k) : ∀ i, i < rows.length → (rows.flatten ++ tl).take (i * k) ++ xs ++ (rows.flatten ++ tl).drop (i * k + xs.length) = (rows.set i xs).flatten ++ tl := by
  induction rows with
  | nil => intro i hi; simp at hi
  | cons r0 rs ih =>
    intro i hi
    have h0 := h r0 List.mem_cons_self
    cases i with
    | zero =>
      simp only [Nat.zero_mul, List.take_zero, List.nil_append, Nat.zero_add, List.set_cons_zero, List.flatten_cons, List.append_assoc]
      rw [hx, ← h0, List.drop_left]
    | succ i =>
      have := ih (fun x hx => h x (List.mem_cons_of_mem _ hx)) i (by simpa using hi)
      simp only [List.flatten_cons, List.append_assoc, List.set_cons_succ] at this ⊢
      rw [← this, Nat.add_mul, Nat.one_mul, List.take_append, List.drop_append, List.take_of_length_le (by omega), List.drop_of_length_le (by omega)]
      simp only [h0, List.append_assoc, List.nil_append]
      congr 3
      · congr 1; omega
      · congr 1; omega
end

/-- The block of Tags: eight rows of fourteen cells, how many of these wait, how many may. -/
def TG (w : World) (g : Nat) (rows : List (List Value)) (n most : Nat) : Prop :=
  rows.length = 8 ∧ (∀ r ∈ rows, r.length = 14) ∧ n ≤ most ∧ most ≤ 8 ∧ Blk w g 60 (rows.flatten ++ [.int .i64 n, .int .i64 most])
/-- The tags of the first rows. -/
def TagsAre (rows : List (List Value)) (n : Nat) (ts : List Int) : Prop := ts.length = n ∧ ∀ (i : Nat) (t : Int), ts[i]? = some t → ∃ r, rows[i]? = some r ∧ r[1]? = some (.int .i64 t)

section
variable {w w' : World} {g n most : Nat} {rows : List (List Value)} {ts : List Int}
theorem TG.n_at (h : TG w g rows n most) : w.cell? ⟨g, 112, none⟩ = some (.int .i64 n) := by
  have := flat_tail h.2.1 [.int .i64 n, .int .i64 most] 0 _ rfl
  rw [h.1] at this
  exact h.2.2.2.2.cell 112 _ this
theorem TG.most_at (h : TG w g rows n most) : w.cell? ⟨g, 113, none⟩ = some (.int .i64 most) := by
  have := flat_tail h.2.1 [.int .i64 n, .int .i64 most] 1 _ rfl
  rw [h.1] at this
  exact h.2.2.2.2.cell 113 _ this
theorem TG.at_ (h : TG w g rows n most) {i j : Nat} {r : List Value} {v : Value} (hr : rows[i]? = some r) (hv : r[j]? = some v) : w.cell? ⟨g, i * 14 + j, none⟩ = some v :=
  h.2.2.2.2.cell _ _ (flat_at h.2.1 _ i j r v hr hv)
theorem TG.keeps {G : Nat → Prop} (h : TG w g rows n most) (k : Keeps G w w') (hg : ¬ G g) : TG w' g rows n most := ⟨h.1, h.2.1, h.2.2.1, h.2.2.2.1, h.2.2.2.2.keeps k hg⟩
theorem TG.up (h : TG w g rows n most) (k : Below w.heap.size w w') : TG w' g rows n most := ⟨h.1, h.2.1, h.2.2.1, h.2.2.2.1, h.2.2.2.2.up k⟩
theorem TG.lt (h : TG w g rows n most) : g < w.heap.size := h.2.2.2.2.lt
end

/-- Where a tag stands, or -1. -/
def placeL (ts : List Int) (tag : Int) : Int := if ts.findIdx (· == tag) < ts.length then ts.findIdx (· == tag) else -1

def PlRel (n : Nat) (ts : List Int) (tag : Int) (w : World) (v : Value) (wr : World) : Prop := ∃ i : Nat, i ≤ n ∧ v = .int .i64 i ∧ wr = w ∧ i ≤ ts.findIdx (· == tag)

set_option maxHeartbeats 2000000 in
theorem place_any (g : Nat) (rows : List (List Value)) (n most : Nat) (ts : List Int) (tag : Int) (w : World) (h : TG w g rows n most) (ht : TagsAre rows n ts) :
    Calls Try.prog 35 #[.pointer (some ⟨g, 0, none⟩), .int .i64 tag] w fun e w' => e = .returned (.int .i64 (placeL ts tag)) ∧ w = w' := by
  have kn := h.n_at
  have hn8 : n ≤ 8 := Nat.le_trans h.2.2.1 h.2.2.2.1
  have H := Lib.hid h
  have HT := Lib.hid ht
  clear h ht
  go_enter Try.func35, Try.ntmps35
  go_wp2
  go_loopw [10] (fun v wr => PlRel n ts tag w v wr) (fun v _ => n - (intOf v).toNat)
  case atStart => exact ⟨0, by omega, rfl, rfl, by omega⟩
  case round =>
    obtain ⟨i, hi, rfl, rfl, hf⟩ := hrel
    by_cases hlt : i < n
    · have hl : i < ts.length := by rw [HT.out.1]; exact hlt
      obtain ⟨r, hr, hv⟩ := HT.out.2 i ts[i] (List.getElem?_eq_getElem hl)
      have kc := H.out.at_ hr hv
      have hi0 : (0 : Int) ≤ i := by omega
      have hi8 : (i : Int) < 8 := by omega
      have hin : (i : Int) < n := by omega
      by_cases he : ts[i] = tag
      · have hp : placeL ts tag = i := by
          have h1 : ts.findIdx (· == tag) = i := Nat.le_antisymm (by
            rcases Nat.lt_or_ge i (ts.findIdx (· == tag)) with h2 | h2
            · exact absurd he (by simpa using List.not_of_lt_findIdx h2)
            · exact h2) hf
          unfold placeL
          rw [h1, if_pos hl]
        have HP := Lib.hid hp
        clear hp
        go_wp2
        go_ret
        exact ⟨by rw [HP.out]; rfl, rfl⟩
      · go_wp2
        go_roundw
        case rel => exact ⟨i + 1, by omega, by go_num, rfl, by
          rcases Nat.lt_or_ge i (ts.findIdx (· == tag)) with h2 | h2
          · omega
          · have h3 : ts.findIdx (· == tag) = i := by omega
            have h4 := List.findIdx_getElem (p := (· == tag)) (xs := ts) (w := by omega)
            simp only [h3] at h4
            exact absurd (by simpa using h4) he⟩
        case measure => simp [intOf]; omega
    · obtain rfl : i = n := by omega
      have hp : placeL ts tag = -1 := by
        unfold placeL
        rw [if_neg (by have := HT.out.1; omega)]
      have HP := Lib.hid hp
      clear hp
      go_wp2
      go_ret
      exact ⟨by rw [HP.out]; rfl, rfl⟩
end Go.Proofs.Ytgogdgpdkkbfhaa
