/-
  Layer 11: the reference's Find, Put.
-/
import Derived.Test.YtoaemkbdfinaoaaDirK
namespace Go.Proofs.Ytoaemkbdfinaoaa
open Go.RowKit
set_option linter.unusedVariables false
set_option linter.unusedSimpArgs false

theorem RdR.keepB {w w' : World} {G : Nat → Prop} {k n : Nat} {A : Option Addr} {rs : List (List Value)} (h : RdR w w.heap.size k A n rs) (hk : Keeps G w w') (hG : ∀ b, InBlk A b → ¬ G b) : RdR w' w'.heap.size k A n rs := by
  refine ⟨h.1, h.2.1, fun hn => ?_⟩
  obtain ⟨b, off, hA, hb, hc⟩ := h.2.2 hn
  exact ⟨b, off, hA, Nat.lt_of_lt_of_le hb hk.size, fun i j r v hr hv => cell_of_heap (hk.block b hb (hG b (by rw [hA]; rfl))) (hc i j r v hr hv)⟩

def FindR (es : List EntI) (s : List UInt8) (w : World) (e : Ending) (w' : World) : Prop :=
  ∃ r : Int, e = .returned (.int .i64 r) ∧ w = w' ∧ ((∃ (i : Nat) (x : EntI), r = i ∧ i < es.length ∧ es[i]? = some x ∧ x.1 = s) ∨ (r = -1 ∧ hasN es s = false))
def FiJ (es : List EntI) (s : List UInt8) (n : Nat) (w : World) (x : Value) (wr : World) : Prop := ∃ j : Nat, j ≤ n ∧ x = .int .i64 j ∧ wr = w ∧ Hid (hasN (es.take j) s = false)
set_option maxHeartbeats 4000000 in
theorem refFind_any (A : Option Addr) (n c : Nat) (es : List EntI) (s : List UInt8) (w : World) (h : RdR w w.heap.size 3 A n (es.map eiC)) (hn : n ≤ 1000000) :
    Calls Try.prog 20 #[.slice A n c, .string (st s)] w (FindR es s w) := by
  have HL := Lib.hid (show es.length = n by have := h.len; simpa using this)
  have H := Lib.hid h
  clear h
  go_enter Try.func20, Try.ntmps20
  go_wp2
  go_loopw [5] (fun x wr => FiJ es s n w x wr) (fun x _ => n - (intOf x).toNat)
  case atStart => exact ⟨0, by omega, rfl, rfl, Lib.hid rfl⟩
  case round =>
    obtain ⟨j, hj, rfl, rfl, hno⟩ := hrel
    by_cases hlt : j < n
    · have j1 : (j : Int) < n := by omega
      have j0 : (0 : Int) ≤ j := by omega
      obtain ⟨b, off, r, hA, hbl, hr, _, hc⟩ := H.out.at_ hlt
      subst hA
      obtain ⟨x, hx⟩ : ∃ x, es[j]? = some x := ⟨_, List.getElem?_eq_getElem (by rw [HL.out]; exact hlt)⟩
      rw [List.getElem?_map, hx] at hr
      obtain rfl : r = eiC x := by simpa using hr.symm
      have d0 := hc 0 _ rfl
      simp only [Nat.add_zero] at d0
      have HX := Lib.hid hx
      have HNO := Lib.hid hno.out
      have htk : es.take (j + 1) = es.take j ++ [x] := by rw [List.take_add_one, hx]; rfl
      have HTK := Lib.hid htk
      obtain ⟨xs, xh⟩ := x
      clear hr hx hc hbl hno htk
      by_cases he : xs = s
      · subst he
        go_wp2
        go_ret
        exact ⟨j, rfl, rfl, .inl ⟨j, _, rfl, by rw [HL.out]; exact hlt, HX.out, rfl⟩⟩
      · have t1 : (xs == s) = false := by rw [beq_eq_false_iff_ne]; exact he
        have HNX := Lib.hid (show hasN (es.take (j + 1)) s = false by
          rw [HTK.out]
          have := HNO.out
          unfold hasN at this ⊢
          rw [List.any_append, this]
          simp [t1])
        go_wp2
        go_roundw
        case rel => exact ⟨j + 1, by omega, by go_num, rfl, Lib.hid HNX.out⟩
        case measure => simp [intOf]; omega
    · obtain rfl : j = n := by omega
      have j1 : ¬ (j : Int) < j := by omega
      have HNO := Lib.hid (show hasN es s = false by have := hno.out; rwa [List.take_of_length_le (by rw [HL.out]; exact Nat.le_refl _)] at this)
      clear hno
      go_wp2
      go_ret
      exact ⟨-1, rfl, rfl, .inr ⟨rfl, HNO.out⟩⟩
theorem has_of_find {es : List EntI} {s : List UInt8} {i : Nat} {x : EntI} (h : es[i]? = some x) (hs : x.1 = s) : hasN es s = true := by
  unfold hasN; rw [List.any_eq_true]; exact ⟨x, List.mem_of_getElem? h, by simp [hs]⟩

theorem wpList_appendEs {P : Program} {w : World} {ops : Array Oper} {rest : List Oper} {o : Oper} {a : Act} {Q : Exit → Act → World → Prop} {t e : TypeId} {z : Value} {bytes : Nat} (el : Elem P t e z 3 bytes)
    (hgd : o.guard = none) (s x : Operand) (u : TypeId) (ho : o.op = .call { callee := .builtin .append, args := #[s, x], argTypes := #[t, u] })
    (base : Nat) (A0 : Option Addr) (n0 c0 : Nat) (es : List EntI) (hs : a.eval s = .slice A0 n0 c0) (hown : OwR w base e 3 A0 n0 c0 (es.map eiC))
    (xv : Value) (hx : a.eval x = xv) (m : Nat) (es2 : List EntI) (hm : es2.length = m) (hsrc : Src P w u 3 xv m (es2.map eiC).flatten) (h63 : n0 + m ≤ 1073741824) (hby : bytes ≤ 65536) (hbase : base ≤ w.heap.size)
    (h : ∀ (A : Option Addr) (n c : Nat) (w' : World), Hid (n = n0 + m) → OwR w' base e 3 A n c ((es ++ es2).map eiC) → w.grownBy w' (A0.map (·.block)) → (A = A0 ∨ ∃ b, A = some ⟨b, 0, none⟩ ∧ w.heap.size ≤ b) → Below base w w' →
      wpList P ops Q rest (a.put o.dst (.slice A n c)) w') : wpList P ops Q (o :: rest) a w := by
  refine wpList_append_mine el hgd s x u ho base (.slice A0 n0 c0) n0 (es.map eiC).flatten hs hown.2.2 xv hx m (es2.map eiC).flatten hsrc h63 hby hbase ?_
  intro A c w' h4 h5 h6
  have hrr : (Value.slice A0 n0 c0).ownBlock = A0.map (·.block) := by cases A0 <;> rfl
  have hfr := fresh_of h4 hown.2.2 h6
  rw [hrr] at h5
  exact h A (n0 + m) c w' rfl ⟨eiC_len _, by have := hown.len; simp at this ⊢; omega, by rw [List.map_append, List.flatten_append]; exact h4⟩ h5 hfr ⟨h5.os, h5.tape, h5.output, h5.size, fun j hj => h5.block j (by omega) (fun e => by have := (hown.isCells j e.symm).1; omega)⟩
/-- A slice's form: nil, or from its block's first cell on. -/
def SlForm (A : Option Addr) (n c : Nat) : Prop := (A = none ∧ n = 0 ∧ c = 0) ∨ ∃ b, A = some ⟨b, 0, none⟩
theorem OwR.form {w : World} {base k n c : Nat} {e : TypeId} {A : Option Addr} {rs : List (List Value)} (h : OwR w base e k A n c rs) : SlForm A n c := by
  rcases h.2.2.2 with ⟨hv, h0⟩ | ⟨g', cap, cur, fz, hv, _⟩
  · injection hv with h1 h2 h3; exact .inl ⟨h1, h0, h3⟩
  · injection hv with h1; exact .inr ⟨g', h1⟩
theorem src_none {P : Program} (W : World) (A : Option Addr) (c : Nat) (u e : TypeId) (hu : P.underlying u = some (.slice e)) : Src P W u 3 (.slice A 0 c) 0 [] :=
  (show RdR W W.heap.size 3 A 0 [] from ⟨by simp, rfl, fun h => absurd h (by omega)⟩).src (by omega) u e hu (by simp)
/-- A list handed back: the one that came, or new memory. -/
def ListPost (A : Option Addr) (es : List EntI) (er : Int) (w : World) (x : Ending) (w' : World) : Prop :=
  ∃ (A' : Option Addr) (n' c' : Nat), x = .returned (.tuple #[.slice A' n' c', .int .i64 er]) ∧ RdR w' w'.heap.size 3 A' n' (es.map eiC) ∧ SlForm A' n' c' ∧ n' ≤ c' ∧ c' ≤ maxLen ∧ (A' = A ∨ ∀ b, InBlk A' b → w.heap.size ≤ b ∧ b < w'.heap.size) ∧ Below w.heap.size w w'
theorem OwR.inB {w : World} {base k n c : Nat} {e : TypeId} {A : Option Addr} {rs : List (List Value)} (h : OwR w base e k A n c rs) : ∀ b, InBlk A b → base ≤ b ∧ b < w.heap.size := by
  intro b hb
  obtain ⟨h1, cs, t, fz, h2⟩ := h.isCells b hb
  exact ⟨h1, (Array.getElem?_eq_some_iff.1 h2).1⟩
def PutJ (es : List EntI) (s : List UInt8) (W : World) (x : Value) (wr : World) : Prop := ∃ j : Nat, j ≤ posN es s ∧ x = .int .i64 j ∧ wr = W
theorem posN_next (es : List EntI) (s : List UInt8) (j : Nat) (x : EntI) (hj : j ≤ posN es s) (hx : es[j]? = some x) : (j < posN es s ↔ lessB x.1 s = true) := by
  constructor
  · intro h; exact posN_low es s j x h hx
  · intro h
    rcases Nat.eq_or_lt_of_le hj with e | h2
    · have := posN_at es s x (by rw [← e]; exact hx)
      rw [h] at this; cases this
    · exact h2

set_option maxRecDepth 20000 in
set_option maxHeartbeats 4000000 in
theorem refPut_any (A : Option Addr) (n c : Nat) (es : List EntI) (s : List UInt8) (ino gen : Int) (w : World) (h : RdR w w.heap.size 3 A n (es.map eiC)) (hform : SlForm A n c) (hnc : n ≤ c) (hcm : c ≤ maxLen) (hn : n ≤ 1000) (hs : s.length ≤ 65536) :
    Calls Try.prog 10 #[.slice A n c, .string (st s), .agg #[.int .i64 ino, .int .i64 gen]] w (ListPost A (putE es s ino gen).1 (putE es s ino gen).2 w) := by
  obtain ⟨W, hW⟩ : ∃ W, W = w.alloc (.cells #[.int .i64 ino, .int .i64 gen] 31) := ⟨_, rfl⟩
  have hB : Blk W w.heap.size 31 [.int .i64 ino, .int .i64 gen] := by rw [hW]; exact Blk.new w 31 [.int .i64 ino, .int .i64 gen]
  have hb : Below w.heap.size w W := by rw [hW]; exact (Below.refl _ _).alloc (Nat.le_refl _) _
  have HB := Lib.hid hB
  have Hb := Lib.hid hb
  have H := Lib.hid ((h.below hb).more hb.size)
  have HW := Lib.hid hW
  have HL := Lib.hid (show es.length = n by have := h.len; simpa using this)
  obtain ⟨R, hR⟩ : ∃ R, R = putE es s ino gen := ⟨_, rfl⟩
  rw [← hR]
  have HRE := Lib.hid hR
  have HCM := Lib.hid hcm
  unfold maxLen at hcm
  clear hB hb hW h hR
  go_enter Try.func10, Try.ntmps10
  go_upto_region 1 with fail
  rw [← HW.out]
  go_wp2_with fail
  refine (refName_any s _ hs).mono ?_
  rintro e w1 ⟨rfl, rfl⟩
  rcases hnm : isName s with _ | _
  · have HRR := Lib.hid (show R = (es, 16) by rw [HRE.out]; exact if_pos hnm)
    clear hnm
    go_wp2
    go_ret2
    exact ⟨A, n, c, by rw [HRR.out]; rfl, by rw [HRR.out]; exact H.out, hform, hnc, HCM.out, .inl rfl, Hb.out⟩
  have HNM := Lib.hid hnm
  clear hnm
  go_wp2_with fail
  refine (refFind_any A n c es s _ H.out (by omega)).mono ?_
  rintro e w1 ⟨r, rfl, rfl, hf⟩
  rcases hf with ⟨i, x, rfl, hil, hx, hxs⟩ | ⟨rfl, hno⟩
  · have HRR := Lib.hid (show R = (es, 10) by rw [HRE.out]; unfold putE; rw [HNM.out, if_neg (by simp), if_pos (has_of_find hx hxs)])
    have i0 : (0 : Int) ≤ i := by omega
    clear hx hxs
    go_wp2
    go_ret2
    exact ⟨A, n, c, by rw [HRR.out]; rfl, by rw [HRR.out]; exact H.out, hform, hnc, HCM.out, .inl rfl, Hb.out⟩
  have HRR := Lib.hid (show R = (insE es (posN es s) (s, ino, gen), 0) by rw [HRE.out]; unfold putE; rw [HNM.out, if_neg (by simp), if_neg (by rw [hno]; simp)])
  clear hno
  obtain ⟨p, hp⟩ : ∃ p, p = posN es s := ⟨_, rfl⟩
  have HP := Lib.hid hp
  have hpl : p ≤ n := by rw [hp, ← HL.out]; exact posN_le _ _
  clear hp
  go_wp2
  go_loopw [9] (fun x wr => PutJ es s W x wr) (fun x _ => p - (intOf x).toNat)
  case atStart => exact ⟨0, Nat.zero_le _, rfl, rfl⟩
  case round =>
    obtain ⟨j, hj, rfl, rfl⟩ := hrel
    rw [← HP.out] at hj
    by_cases hlt : j < p
    · have j1 : (j : Int) < n := by omega
      have j0 : (0 : Int) ≤ j := by omega
      obtain ⟨b, off, r, hA, hbl, hr, _, hc⟩ := H.out.at_ (show j < n by omega)
      subst hA
      obtain ⟨x, hx⟩ : ∃ x, es[j]? = some x := ⟨_, List.getElem?_eq_getElem (by rw [HL.out]; omega)⟩
      rw [List.getElem?_map, hx] at hr
      obtain rfl : r = eiC x := by simpa using hr.symm
      have d0 := hc 0 _ rfl
      simp only [Nat.add_zero] at d0
      have hls : Op.bytesLess x.1 s = true := posN_low es s j x (by rw [← HP.out]; exact hlt) hx
      clear hr hx hc hbl
      go_wp2
      go_roundw
      case rel => exact ⟨j + 1, by rw [← HP.out]; omega, by go_num, rfl⟩
      case measure => simp [intOf]; omega
    · obtain rfl : j = p := by omega
      -- the loop ends: the list's end, or an entry that does not stand ahead
      obtain ⟨hend⟩ : Nonempty ((j = n) ∨ (j < n ∧ ∃ (b off : Nat) (xs : List UInt8), A = some ⟨b, off, none⟩ ∧ wr.cell? ⟨b, off + j * 3, none⟩ = some (.string (st xs)) ∧ Op.bytesLess xs s = false)) := by
        refine ⟨?_⟩
        rcases Nat.eq_or_lt_of_le hpl with e | hjn
        · exact .inl e
        · right
          obtain ⟨b, off, r, hA, hbl, hr, _, hc⟩ := H.out.at_ hjn
          obtain ⟨x, hx⟩ : ∃ x, es[j]? = some x := ⟨_, List.getElem?_eq_getElem (by rw [HL.out]; omega)⟩
          rw [List.getElem?_map, hx] at hr
          obtain rfl : r = eiC x := by simpa using hr.symm
          exact ⟨hjn, b, off, x.1, hA, by simpa using hc 0 _ rfl, posN_at es s x (by rw [← HP.out]; exact hx)⟩
      have hfirst := H.out.firstS (show j ≤ n by omega)
      have HF := Lib.hid (show RdR wr wr.heap.size 3 A j ((es.take j).map eiC) by rw [List.map_take]; exact hfirst)
      have one : ∀ (l : List EntI), ∀ r ∈ l.map eiC, ∀ v ∈ r, v.oneCell' = true := fun l r hr => by obtain ⟨e, _, rfl⟩ := List.mem_map.1 hr; exact eiC_one e
      have ONE := Lib.hid one
      have jc : (j : Int) ≤ c := by omega
      have jn : (j : Int) ≤ n := by omega
      have j0 : (0 : Int) ≤ j := by omega
      have HJL := Lib.hid (show j ≤ es.length by rw [HL.out]; exact hpl)
      clear hfirst one
      have Hs1 := Lib.hid (HF.out.src (P := Try.prog) (c := c) (by omega) 25 42 Try.underlying25 (ONE.out _))
      have HIN := Lib.hid (show es.take j ++ [((s, ino, gen) : EntI)] ++ es.drop j = insE es (posN es s) (s, ino, gen) by rw [← HP.out]; simp [insE])
      obtain ⟨X, M, C, hways⟩ : ∃ (X : Option Addr) (M C : Nat), (A = none ∧ n = 0 ∧ c = 0 ∧ j = 0 ∧ X = none ∧ M = 0 ∧ C = 0) ∨ (∃ b, A = some ⟨b, 0, none⟩ ∧ ((j = n ∧ c = j ∧ X = some ⟨b, 0, none⟩ ∧ M = 0 ∧ C = 0) ∨ (j = n ∧ ¬ c = j ∧ X = some ⟨b, j * 3, none⟩ ∧ M = 0 ∧ C = c - j) ∨ (j < n ∧ ¬ c = j ∧ X = some ⟨b, j * 3, none⟩ ∧ M = n - j ∧ C = c - j))) := by
        rcases hform with ⟨h1, h2, h3⟩ | ⟨b, h1⟩
        · exact ⟨none, 0, 0, .inl ⟨h1, h2, h3, by omega, rfl, rfl, rfl⟩⟩
        · by_cases hcj : c = j
          · exact ⟨_, 0, 0, .inr ⟨b, h1, .inl ⟨by omega, hcj, rfl, rfl, rfl⟩⟩⟩
          · by_cases hjn : j = n
            · exact ⟨_, 0, c - j, .inr ⟨b, h1, .inr (.inl ⟨hjn, hcj, rfl, rfl, rfl⟩)⟩⟩
            · exact ⟨_, n - j, c - j, .inr ⟨b, h1, .inr (.inr ⟨by omega, hcj, rfl, rfl, rfl⟩)⟩⟩
      have HDL := Lib.hid (show (es.drop j).length = M by
        rw [List.length_drop, HL.out]
        rcases hways with ⟨_, h1, _, _, _, h2, _⟩ | ⟨b, _, ⟨h1, _, _, h2, _⟩ | ⟨h1, _, _, h2, _⟩ | ⟨h1, _, _, h2, _⟩⟩ <;> omega)
      have HSS := Lib.hid (show ∀ (W : World), Below wr.heap.size wr W → Src Try.prog W 25 3 (.slice X M C) M ((es.drop j).map eiC).flatten from fun W hW => by
        by_cases hM : M = 0
        · have : es.drop j = [] := List.length_eq_zero_iff.1 (by rw [HDL.out, hM])
          rw [this, hM]
          exact src_none W X C _ _ Try.underlying25
        · rcases hways with ⟨_, _, _, _, _, h2, _⟩ | ⟨b, hA, ⟨_, _, _, h2, _⟩ | ⟨_, _, _, h2, _⟩ | ⟨hjn, hcj, rfl, rfl, rfl⟩⟩
          · exact absurd h2 hM
          · exact absurd h2 hM
          · exact absurd h2 hM
          · have hcut := (H.out.below hW).cut (show j ≤ n by omega) hnc
            rw [if_neg hcj, hA, Option.map_some, add_plain, Nat.zero_add, ← List.map_drop] at hcut
            exact hcut.src (P := Try.prog) (c := c - j) (by omega) 25 42 Try.underlying25 (ONE.out _))
      have HLS := Lib.hid (show j < n → ∀ b, A = some ⟨b, 0, none⟩ → ∃ (xs : List UInt8), wr.cell? ⟨b, j * 3, none⟩ = some (.string (st xs)) ∧ Op.bytesLess xs s = false by
        intro hjn b hA
        rcases hend with e | ⟨_, b', off, xs, hA2, hc, hl⟩
        · omega
        · rw [hA] at hA2; injection hA2 with hA2; injection hA2 with h1 h2; subst h1 h2
          exact ⟨xs, by simpa using hc, hl⟩)
      have hM9 : M ≤ 1000 := by have := HDL.out; rw [List.length_drop] at this; have := HL.out; omega
      clear hend hform
      rcases hways with ⟨rfl, rfl, rfl, rfl, rfl, rfl, rfl⟩ | ⟨b, rfl, ⟨rfl, rfl, rfl, rfl, rfl⟩ | ⟨rfl, hcj, rfl, rfl, rfl⟩ | ⟨hjn, hcj, rfl, rfl, rfl⟩⟩
      case inr.inr.inr =>
        obtain ⟨xs, hcell, hls⟩ := HLS.out hjn b rfl
        go_upto_region 11 with (at_builtin; go_must (refine wpList_appendEs entsElem rfl (.tmp 36) (.tmp 39) 25 rfl wr.heap.size none 0 0 [] rfl (OwR.nil _ _ _ _) _ rfl _ (es.take _) (by rw [List.length_take]; have := HJL.out; omega) Hs1.out (by omega) (by omega) (by omega) ?_); intro A3 n3 c3 w3 hn3 hown3 hg3 hf3 hb3; simp only [Act.put, List.setIfInBounds_toArray, List.set_cons_succ, List.set_cons_zero])
        have hhb := (HB.out.up hb3)
        have k0 := hhb.cell 0 _ rfl
        have k1 := hhb.cell 1 _ rfl
        have HO3 := Lib.hid hown3
        have HB3 := Lib.hid hb3
        have hn3' := hn3.out
        have Hs2 := Lib.hid (Src.oneR (P := Try.prog) w3 25 42 Try.underlying25 (eiC (s, ino, gen)) rfl (eiC_one _) #[.string (st s), .int .i64 ino, .int .i64 gen] rfl 42)
        have hz3 : wr.heap.size ≤ (w3.alloc (.cells #[.string (st s), .int .i64 ino, .int .i64 gen] 42)).heap.size := by have := hb3.size; simp; omega
        clear hown3 hg3 hf3 hhb hb3 hn3
        go_upto_region 12 with (at_builtin; go_must (refine wpList_appendEs entsElem rfl (.tmp 41) (.tmp 45) 25 rfl wr.heap.size A3 n3 c3 (es.take _) rfl (HO3.out.alloc _) _ rfl 1 [(s, ino, gen)] rfl Hs2.out (by omega) (by omega) hz3 ?_); intro A4 n4 c4 w4 hn4 hown4 hg4 hf4 hb4; simp only [Act.put, List.setIfInBounds_toArray, List.set_cons_succ, List.set_cons_zero])
        have HO4 := Lib.hid hown4
        have HB4 := Lib.hid (show Below wr.heap.size wr w4 from HB3.out.trans (((Below.refl _ w3).alloc HB3.out.size _).trans hb4))
        have hn4' := hn4.out
        have hz4 : wr.heap.size ≤ w4.heap.size := HB4.out.size
        clear hown4 hg4 hf4 hb4 hn4 k0 k1
        go_wp2_with (at_builtin; go_must (refine wpList_appendEs entsElem rfl (.tmp 47) (.tmp 50) 25 rfl wr.heap.size A4 n4 c4 (es.take _ ++ [(s, ino, gen)]) rfl HO4.out _ rfl _ (es.drop _) HDL.out (HSS.out _ HB4.out) (by omega) (by omega) hz4 ?_); intro A5 n5 c5 w5 hn5 hown5 hg5 hf5 hb5)
        have HO5 := Lib.hid hown5
        have HB5 := Lib.hid (HB4.out.trans hb5)
        clear hown5 hg5 hf5 hb5 hn5
        go_wp2
        go_ret2
        exact ⟨A5, n5, c5, by rw [HRR.out]; rfl, by rw [HRR.out]; show RdR _ _ _ _ _ ((insE es (posN es s) (s, ino, gen)).map eiC); rw [← HIN.out]; exact HO5.out.rd, HO5.out.form, HO5.out.cap.1, HO5.out.cap.2, .inr (fun b hb => ⟨Nat.le_trans Hb.out.size (HO5.out.inB b hb).1, (HO5.out.inB b hb).2⟩), Up.trans' Hb.out HB5.out⟩
      all_goals
        go_upto_region 11 with (at_builtin; go_must (refine wpList_appendEs entsElem rfl (.tmp 36) (.tmp 39) 25 rfl wr.heap.size none 0 0 [] rfl (OwR.nil _ _ _ _) _ rfl _ (es.take _) (by rw [List.length_take]; have := HJL.out; omega) Hs1.out (by omega) (by omega) (by omega) ?_); intro A3 n3 c3 w3 hn3 hown3 hg3 hf3 hb3; simp only [Act.put, List.setIfInBounds_toArray, List.set_cons_succ, List.set_cons_zero])
        have hhb := (HB.out.up hb3)
        have k0 := hhb.cell 0 _ rfl
        have k1 := hhb.cell 1 _ rfl
        have HO3 := Lib.hid hown3
        have HB3 := Lib.hid hb3
        have hn3' := hn3.out
        have Hs2 := Lib.hid (Src.oneR (P := Try.prog) w3 25 42 Try.underlying25 (eiC (s, ino, gen)) rfl (eiC_one _) #[.string (st s), .int .i64 ino, .int .i64 gen] rfl 42)
        have hz3 : wr.heap.size ≤ (w3.alloc (.cells #[.string (st s), .int .i64 ino, .int .i64 gen] 42)).heap.size := by have := hb3.size; simp; omega
        clear hown3 hg3 hf3 hhb hb3 hn3
        go_upto_region 12 with (at_builtin; go_must (refine wpList_appendEs entsElem rfl (.tmp 41) (.tmp 45) 25 rfl wr.heap.size A3 n3 c3 (es.take _) rfl (HO3.out.alloc _) _ rfl 1 [(s, ino, gen)] rfl Hs2.out (by omega) (by omega) hz3 ?_); intro A4 n4 c4 w4 hn4 hown4 hg4 hf4 hb4; simp only [Act.put, List.setIfInBounds_toArray, List.set_cons_succ, List.set_cons_zero])
        have HO4 := Lib.hid hown4
        have HB4 := Lib.hid (show Below wr.heap.size wr w4 from HB3.out.trans (((Below.refl _ w3).alloc HB3.out.size _).trans hb4))
        have hn4' := hn4.out
        have hz4 : wr.heap.size ≤ w4.heap.size := HB4.out.size
        clear hown4 hg4 hf4 hb4 hn4 k0 k1
        go_wp2_with (at_builtin; go_must (refine wpList_appendEs entsElem rfl (.tmp 47) (.tmp 50) 25 rfl wr.heap.size A4 n4 c4 (es.take _ ++ [(s, ino, gen)]) rfl HO4.out _ rfl _ (es.drop _) HDL.out (HSS.out _ HB4.out) (by omega) (by omega) hz4 ?_); intro A5 n5 c5 w5 hn5 hown5 hg5 hf5 hb5)
        have HO5 := Lib.hid hown5
        have HB5 := Lib.hid (HB4.out.trans hb5)
        clear hown5 hg5 hf5 hb5 hn5
        go_wp2
        go_ret2
        exact ⟨A5, n5, c5, by rw [HRR.out]; rfl, by rw [HRR.out]; show RdR _ _ _ _ _ ((insE es (posN es s) (s, ino, gen)).map eiC); rw [← HIN.out]; exact HO5.out.rd, HO5.out.form, HO5.out.cap.1, HO5.out.cap.2, .inr (fun b hb => ⟨Nat.le_trans Hb.out.size (HO5.out.inB b hb).1, (HO5.out.inB b hb).2⟩), Up.trans' Hb.out HB5.out⟩
end Go.Proofs.Ytoaemkbdfinaoaa
