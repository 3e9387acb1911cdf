/-
  Layer 11: the law's all.
-/
import Derived.Test.YtoaemkbdfinaoaaDirG
import Derived.Shelf.Abstract
namespace Go.Proofs.Ytoaemkbdfinaoaa
open Go.RowKit Go.Shelf
set_option linter.unusedVariables false
set_option linter.unusedSimpArgs false
attribute [local go_sem] Oper.semAt_some

theorem all_stops (n : Nat) (hn : 1 ≤ n) (g Bd Bo : Nat) (G0 : Nat → Prop) (A : Option Addr) (nn c : Nat) (es : List EntI) (w : World) (h : Dr w g A nn c es) (hnn : nn ≤ 1000) (hBd : w.cell? ⟨Bd, 0, none⟩ = some (.pointer (some ⟨g, 0, none⟩))) (hBdl : Bd < w.heap.size)
    (hG0 : ∀ k, G0 k → k < w.heap.size) (hBo : Bo < w.heap.size) (hout : ∀ b, outB Bo w = some b → b < w.heap.size) :
    SeqStopsK Fence.wide n Try.prog 34 #[.pointer (some ⟨Bd, 0, none⟩)] encE (KpB G0 Bo) (fun xs => xs = es) (fun pre => ∃ k, k ≤ es.length ∧ pre = es.take k) es.length w :=
  fun l J Jx W hW hJ hJx hY h0 => all1_in n hn l g Bd Bo G0 A nn c es W (h.up hW) hnn ((hW.cell (p := ⟨Bd, 0, none⟩) hBdl).trans hBd) (fun k hk => Nat.lt_of_lt_of_le (hG0 k hk) hW.size) (Nat.lt_of_lt_of_le hBo hW.size) (fun b hb => by
    rw [outB_below Bo hW hBo] at hb
    exact Nat.lt_of_lt_of_le (hout b hb) hW.size) J Jx hJ hY h0

theorem All_any (g : Nat) (w : World) : Calls Try.prog 17 #[.pointer (some ⟨g, 0, none⟩)] w fun e w' => e = .returned (.func (.func 34) #[] #[.pointer (some ⟨w.heap.size, 0, none⟩)]) ∧ w' = w.alloc (.cells #[.pointer (some ⟨g, 0, none⟩)] 23) := by
  go_enter Try.func17, Try.ntmps17
  go_wp2
  go_ret
  exact ⟨rfl, rfl⟩

theorem wpListIn_appendE {F : Fence} {k : Nat} {P : Program} {w : World} {ops : Array Oper} {rest : List Oper} {o : Oper} {a : Act} {Q : Exit → Act → World → Prop} {t e : TypeId} {z : Value} {bytes : Nat} (el : Elem P t e z 3 bytes)
    (hgd : o.guard = none) (s x : Operand) (u : TypeId) (ho : o.op = .call { callee := .builtin .append, args := #[s, x], argTypes := #[t, u] })
    (base : Nat) (A0 : Option Addr) (n0 c0 : Nat) (es : List EntI) (hs : a.eval s = .slice A0 n0 c0) (hown : OwR w base e 3 A0 n0 c0 (es.map eiC))
    (xv : Value) (hx : a.eval x = xv) (en : EntI) (hsrc : Src P w u 3 xv 1 (eiC en)) (h63 : n0 + 1 ≤ 1073741824) (hby : bytes ≤ 65536) (hbase : base ≤ w.heap.size)
    (h : ∀ (A : Option Addr) (n c : Nat) (w' : World), Hid (n = n0 + 1) → OwR w' base e 3 A n c ((es ++ [en]).map eiC) → w.grownBy w' (A0.map (·.block)) → (A = A0 ∨ ∃ b, A = some ⟨b, 0, none⟩ ∧ w.heap.size ≤ b) →
      wpListIn F k P ops Q rest (a.put o.dst (.slice A n c)) w') : wpListIn F k P ops Q (o :: rest) a w := by
  obtain ⟨i, hi, hz, h2, h3⟩ := el.info
  obtain ⟨v', w', hr, h4, h5, h6⟩ := run_append_src (P := P) w base t u o.type e i z 3 bytes el.ht hi hz h2 h3 el.zs (.slice A0 n0 c0) n0 (es.map eiC).flatten hown.2.2 xv 1 (eiC en) hsrc (by unfold maxLen; omega)
    (Nat.le_trans (Nat.mul_le_mul h63 hby) (by omega)) hbase
  obtain ⟨A, c, rfl, _⟩ := h4.form
  have hrr : (Value.slice A0 n0 c0).ownBlock = A0.map (·.block) := by cases A0 <;> rfl
  have hfr := fresh_of h4 hown.2.2 h6
  rw [hrr] at h5
  refine wpListIn_plain hgd fun K hK => ?_
  unfold Oper.wpIn
  refine ⟨?_, ?_⟩
  · simp [Oper.about, ho, resolve, Target.leads, Sem.run_pure]
  · rw [Oper.semAt_plain F _ _ (by rw [ho]; intro c hc'; cases hc')]
    simp only [execOp, ho, resolve, invoke, builtin, Sem.run_bind, Sem.run_pure, Result.andThen_ok, List.map_toArray, List.map_cons, List.map_nil, hs, hx, hr]
    exact hK _ _ (h A (n0 + 1) c w' rfl ⟨eiC_len _, by have := hown.len; simp at this ⊢; omega, by rw [List.map_append, List.flatten_append]; simpa using h4⟩ h5 hfr)

theorem func_not_nilIn (W : World) (k d : Nat) (lb : Array Value) : (Op.equalIn (d + 1) 45 (.func (.func k) #[] lb) .nilFunc).run Try.prog W = .ok false W := by
  simp [Op.equalIn, run_underlying Try.underlying45]
theorem func_not_nil (W : World) (k : Nat) (lb : Array Value) : (binOp .eql 45 (.func (.func k) #[] lb) .nilFunc).run Try.prog W = .ok (.bool false) W := by
  simp only [binOp]
  simp [Op.equal, Op.maxDepth, func_not_nilIn W k 9999 lb]
def AllPost (es : List EntI) (nn : Nat) (w : World) (e : Ending) (w' : World) : Prop := ∃ (A' : Option Addr) (c' : Nat), e = .returned (.tuple #[.slice A' nn c', .bool true]) ∧ OwR w' w.heap.size 42 3 A' nn c' (es.map eiC) ∧ Below w.heap.size w w'
theorem heap_kept {W W' : World} {row : Option Nat} {k : Nat} {cs : Array Value} {t : TypeId} {fz : Nat × Nat} {B : Nat} (h : W.heap[k]? = some (.cells cs t fz)) (hg : W.grownBy W' row) (hr : ∀ r, row = some r → B ≤ r ∧ ∃ o : Obj, W.heap[r]? = some o ∧ o.isCells = false) : W'.heap[k]? = W.heap[k]? := by
  refine hg.block k (Array.getElem?_eq_some_iff.1 h).1 (fun e => ?_)
  obtain ⟨_, o, h1, h2⟩ := hr k e.symm
  rw [h] at h1
  injection h1 with h1
  subst h1
  cases h2
theorem Blk.kept {W W' : World} {row : Option Nat} {g B : Nat} {t : TypeId} {cs : List Value} (h : Blk W g t cs) (hg : W.grownBy W' row) (hr : ∀ r, row = some r → B ≤ r ∧ ∃ o : Obj, W.heap[r]? = some o ∧ o.isCells = false) : Blk W' g t cs :=
  (heap_kept h hg hr).trans h
theorem OwR.kept {W W' : World} {row : Option Nat} {base k n c B : Nat} {e : TypeId} {A : Option Addr} {rs : List (List Value)} (h : OwR W base e k A n c rs) (hg : W.grownBy W' row) (hr : ∀ r, row = some r → B ≤ r ∧ ∃ o : Obj, W.heap[r]? = some o ∧ o.isCells = false) : OwR W' base e k A n c rs := by
  refine ⟨h.1, h.2.1, h.2.2.1, ?_⟩
  rcases h.2.2.2 with h2 | ⟨g, cap, cur, fz, hv, hbg, hh, r⟩
  · exact .inl h2
  · exact .inr ⟨g, cap, cur, fz, hv, hbg, (heap_kept hh hg hr).trans hh, r⟩
theorem kp_alloc {G0 : Nat → Prop} {Bo : Nat} (W : World) (o : Obj) (h : Bo < W.heap.size) : KpB G0 Bo W (W.alloc o) :=
  ⟨by simp, fun k cs t fz hk _ _ => Below.heap_alloc _ _ _ (Array.getElem?_eq_some_iff.1 hk).1, .inl (outB_alloc Bo W o h)⟩
theorem OwR.ne {W : World} {base k n c q : Nat} {e t : TypeId} {A : Option Addr} {rs : List (List Value)} {cs : List Value} (h : OwR W base e k A n c rs) (hb : Blk W q t cs) (ht : t ≠ e) : ¬ InBlk A q := by
  rcases h.2.2.2 with ⟨hv, _⟩ | ⟨g', cap, cur, fz, hv, _, hh, _⟩
  · injection hv with h1; subst h1; intro e; cases e
  · injection hv with h1; subst h1
    intro e
    have e' : g' = q := by simpa [InBlk] using e
    subst e'
    unfold Blk at hb
    rw [hb] at hh
    injection hh with hh
    injection hh with _ h2 _
    exact ht h2
theorem OwR.isCells {W : World} {base k n c : Nat} {e : TypeId} {A : Option Addr} {rs : List (List Value)} (h : OwR W base e k A n c rs) (j : Nat) (hj : A.map (·.block) = some j) : base ≤ j ∧ ∃ cs t fz, W.heap[j]? = some (.cells cs t fz) := by
  rcases h.2.2.2 with ⟨hv, _⟩ | ⟨g', cap, cur, fz, hv, hb, hh, _⟩
  · injection hv with h1; subst h1; cases hj
  · injection hv with h1; subst h1
    simp at hj; subst hj
    exact ⟨hb, _, _, _, hh⟩
theorem box_after {W w3 : World} {base n' c' Bo k : Nat} {t e : TypeId} {A' : Option Addr} {rs : List (List Value)} (hO : Blk W Bo t [.slice A' n' c']) (hR : OwR W base e k A' n' c' rs) (ht : t ≠ e) (o : Obj) (hg : (W.alloc o).grownBy w3 (A'.map (·.block))) : Blk w3 Bo t [.slice A' n' c'] := by
  have h1 : Blk (W.alloc o) Bo t [.slice A' n' c'] := hO.up ((Below.refl _ _).alloc (Nat.le_refl _) _)
  exact (hg.block Bo h1.lt (fun e => hR.ne hO ht e.symm)).trans h1
theorem outB_blk {W : World} {Bo n c : Nat} {t : TypeId} {A : Option Addr} (h : Blk W Bo t [.slice A n c]) : outB Bo W = A.map (·.block) := by
  unfold outB
  rw [h.cell 0 _ rfl]
  cases A <;> rfl
/-- An element appended to the slice in box Bo: what stands. -/
theorem append_kp {W w3 : World} {base n' c' Bo k : Nat} {t e : TypeId} {A' A3 : Option Addr} {rs : List (List Value)} (hO : Blk W Bo t [.slice A' n' c']) (hR : OwR W base e k A' n' c' rs) (ht : t ≠ e) (o : Obj) (hg : (W.alloc o).grownBy w3 (A'.map (·.block)))
    (hf : A3 = A' ∨ ∃ b, A3 = some ⟨b, 0, none⟩ ∧ (W.alloc o).heap.size ≤ b) (n3 c3 : Nat) :
    KeepsOthers W (w3.setCell ⟨Bo, 0, none⟩ (.slice A3 n3 c3)) ∧ KpB (fun k => k = Bo) Bo W (w3.setCell ⟨Bo, 0, none⟩ (.slice A3 n3 c3)) ∧ Blk (w3.setCell ⟨Bo, 0, none⟩ (.slice A3 n3 c3)) Bo t [.slice A3 n3 c3] ∧ Keeps (Is Bo) w3 (w3.setCell ⟨Bo, 0, none⟩ (.slice A3 n3 c3)) := by
  have hb := box_after hO hR ht o hg
  have h4 : Blk (w3.setCell ⟨Bo, 0, none⟩ (.slice A3 n3 c3)) Bo t [.slice A3 n3 c3] := hb.set 0 _
  have hks : Keeps (Is Bo) w3 (w3.setCell ⟨Bo, 0, none⟩ (.slice A3 n3 c3)) := (Keeps.refl (Is Bo) _).setCell (p := ⟨Bo, 0, none⟩) (.inl rfl) _
  have hsz : W.heap.size < (W.alloc o).heap.size := by simp
  refine ⟨(KeepsOthers.alloc W o).trans ((KeepsOthers.of_grownBy hg (fun j ob hj hob => ?_)).trans (KeepsOthers.setCell _ _ _)), ⟨?_, ?_, ?_⟩, h4, hks⟩
  · obtain ⟨_, cs, t', fz, hc⟩ := hR.isCells j hj
    have hjl : j < W.heap.size := (Array.getElem?_eq_some_iff.1 hc).1
    rw [show (W.alloc o).heap[j]? = W.heap[j]? from Below.heap_alloc _ _ _ hjl, hc] at hob
    injection hob with hob
    subst hob
    rfl
  · have := hg.size
    have := hks.size
    omega
  · intro j cs t' fz hj hg0 ho
    have hjl : j < W.heap.size := (Array.getElem?_eq_some_iff.1 hj).1
    have e1 : (W.alloc o).heap[j]? = W.heap[j]? := Below.heap_alloc _ _ _ hjl
    rw [outB_blk hO] at ho
    have e2 := hg.block j (by omega) (fun e => ho e.symm)
    have e3 := hks.block j (by have := hg.size; omega) (fun e => hg0 e)
    exact e3.trans (e2.trans e1)
  · rw [outB_blk h4, outB_blk hO]
    rcases hf with e | ⟨b, e, hb⟩
    · exact .inl (by rw [e])
    · exact .inr ⟨b, by rw [e]; rfl, by omega⟩
theorem below_app {w W w3 W4 : World} {n' c' k : Nat} {e : TypeId} {A' : Option Addr} {rs : List (List Value)} (hB : Below w.heap.size w W) (hR : OwR W w.heap.size e k A' n' c' rs) (o : Obj) (hg : (W.alloc o).grownBy w3 (A'.map (·.block))) (hk : Keeps (Is w.heap.size) w3 W4) : Below w.heap.size w W4 := by
  have h1 : Below w.heap.size w (W.alloc o) := hB.alloc hB.size _
  have h2 : Below w.heap.size (W.alloc o) w3 := ⟨hg.os, hg.tape, hg.output, hg.size, fun j hj => hg.block j (by have := h1.size; omega) (fun e => by have := (hR.isCells j e.symm).1; omega)⟩
  exact h1.trans (h2.trans (hk.is (Nat.le_refl _) (by have := h1.size; have := h2.size; omega)))
theorem OwR.keepBox {W W' : World} {base k n c Bo : Nat} {e t : TypeId} {A : Option Addr} {rs : List (List Value)} {cs : List Value} (h : OwR W base e k A n c rs) (hO : Blk W' Bo t cs) (ht : t ≠ e) (hk : Keeps (Is Bo) W W') (hlt : Bo < W.heap.size) (hne : ¬ InBlk A Bo) : OwR W' base e k A n c rs :=
  Own.keepGI h hk (fun b hb e => hne (by have e' : b = Bo := e; rw [← e']; exact hb))
/-- Between two rounds of all. -/
def AllI (w : World) (pre : List EntI) (W : World) : Prop := ∃ (A' : Option Addr) (n' c' : Nat), Blk W w.heap.size 25 [.slice A' n' c'] ∧ OwR W w.heap.size 42 3 A' n' c' (pre.map eiC) ∧ Below w.heap.size w W
theorem allI_own (w : World) (B : Nat) (hB : w.heap.size ≤ B) : OwnFrom B (AllI w) := by
  rintro pre X Y row ⟨A', n', c', h1, h2, h3⟩ hg hr
  exact ⟨A', n', c', h1.kept hg hr, h2.kept hg hr, h3.grown hg h3.size (fun k e => Nat.le_trans hB (hr k e).1)⟩
def AllAx (g : Nat) (w : World) (x : EntI) (a' : Act) (W : World) : Prop := ∃ Bx, w.heap.size < Bx ∧ Blk W Bx 31 [.int .i64 x.2.1, .int .i64 x.2.2] ∧
  a' = { tmps := #[.pointer (some ⟨g, 0, none⟩), undef, .slice none 0 0, .bool false, .pointer (some ⟨w.heap.size, 0, none⟩), .func (.func 34) #[] #[.pointer (some ⟨w.heap.size + 1, 0, none⟩)], .string (st x.1), .pointer (some ⟨Bx, 0, none⟩), .pointer (some ⟨g, 0, none⟩), .func (.func 34) #[] #[.pointer (some ⟨w.heap.size + 1, 0, none⟩)], .func (.func 34) #[] #[.pointer (some ⟨w.heap.size + 1, 0, none⟩)], .bool false, .func (.func 34) #[] #[.pointer (some ⟨w.heap.size + 1, 0, none⟩)], .string (st x.1), .agg #[.int .i64 x.2.1, .int .i64 x.2.2], undef, undef, undef, undef, undef, undef, undef], defers := [] }
theorem allAx_own (g : Nat) (w : World) (B : Nat) : ∀ x a', OwnFrom B (fun (_ : Unit) W => AllAx g w x a' W) := by
  rintro x a' _ X Y row ⟨Bx, h1, h2, h3⟩ hg hr
  exact ⟨Bx, h1, h2.kept hg hr, h3⟩
set_option maxRecDepth 100000 in
set_option maxHeartbeats 4000000 in
theorem lall_any (g : Nat) (A : Option Addr) (nn c : Nat) (es : List EntI) (w : World) (h : Dr w g A nn c es) (hnn : nn ≤ 1000) :
    Calls Try.prog 16 #[.pointer (some ⟨g, 0, none⟩)] w (AllPost es nn w) := by
  have H := Lib.hid h
  have HL := Lib.hid h.len
  have hfn := fun W lb => func_not_nil W 34 lb
  clear h
  refine (callsIn_wide (n := 5)).1 ?_
  refine callsIn_of_wp_marks Try.func16 rfl trivial ?_ rfl
  simp only [Try.ntmps16, List.size_toArray, List.length_cons, List.length_nil, Nat.reduceAdd, Nat.reduceSub, Array.replicate_succ, Array.replicate_zero, List.push_toArray, List.append_toArray, List.nil_append, List.cons_append]
  gi_wp2_with (refine ⟨trivial, ?_⟩; gi_at_call 17; refine (callsIn_wide.2 (All_any g _)).mono ?_; rintro e w' ⟨rfl, rfl⟩)
  obtain ⟨W1, hW1⟩ : ∃ x, x = w.alloc (.cells #[.slice none 0 0] 25) := ⟨_, rfl⟩
  obtain ⟨W2, hW2⟩ : ∃ x, x = W1.alloc (.cells #[.pointer (some ⟨g, 0, none⟩)] 23) := ⟨_, rfl⟩
  have hb1 : Below w.heap.size w W1 := by rw [hW1]; exact (Below.refl _ _).alloc (Nat.le_refl _) _
  have hb2 : Below W1.heap.size W1 W2 := by rw [hW2]; exact (Below.refl _ _).alloc (Nat.le_refl _) _
  have hs1 : W1.heap.size = w.heap.size + 1 := by rw [hW1]; simp
  have hs2 : W2.heap.size = w.heap.size + 2 := by rw [hW2]; simp; omega
  have hO1 : Blk W2 w.heap.size 25 [.slice none 0 0] := (show Blk W1 w.heap.size 25 [.slice none 0 0] by rw [hW1]; exact Blk.new w 25 [.slice none 0 0]).up hb2
  have hD1 : Blk W2 (w.heap.size + 1) 23 [.pointer (some ⟨g, 0, none⟩)] := by rw [← hs1, hW2]; exact Blk.new W1 23 [.pointer (some ⟨g, 0, none⟩)]
  have H2 := Lib.hid ((H.out.up hb1).up hb2)
  have hbw := Up.trans' hb1 hb2
  rw [← hW1, ← hW2]
  have hcD := hD1.cell 0 _ rfl
  have hoB : outB w.heap.size W2 = none := by unfold outB; rw [hO1.cell 0 _ rfl]
  clear hW1 hW2 hfn
  refine wpIn_rangeFunc_ownH rfl (by omega) (gf := 34) (lb := #[.pointer (some ⟨w.heap.size + 1, 0, none⟩)]) rfl trivial (enters_of Try.func34 (by kernel_rfl) rfl)
    (all_stops 4 (by omega) g (w.heap.size + 1) w.heap.size (fun k => k = w.heap.size) A nn c es W2 H2.out hnn hcD (by omega) (fun k hk => by omega) (by omega) (fun b hb => by rw [hoB] at hb; cases hb))
    (fun h k => h.trans k) (kpB_put (by omega)) (Below.refl _ _) (fun _ => rfl)
    (fun pre W => AllI w pre W)
    (fun _ _ _ => False)
    (allI_own w _ (by omega))
    (fun _ _ _ _ _ hs _ _ => hs)
    ⟨none, 0, 0, hO1, OwR.nil _ _ _ _, hbw⟩
    (fun x a' W => AllAx g w x a' W)
    (allAx_own g w _)
    ?assign ?body ?done ?stop
  case assign =>
    rintro l pre x W K ⟨A', n', c', hO, hR, hB⟩ hK
    dsimp only [encE]
    gi_wp2
    exact hK _ _ ((KeepsOthers.alloc _ _).from _) (kp_alloc W _ hO.lt) ⟨A', n', c', hO.up ((Below.refl _ _).alloc (Nat.le_refl _) _), hR.alloc _, hB.alloc hB.size _⟩ ⟨W.heap.size, hO.lt, Blk.new W 31 [.int .i64 x.2.1, .int .i64 x.2.2], rfl⟩
  case body =>
    rintro l pre x a' W hl ⟨r, hr⟩ ⟨A', n', c', hO, hR, hB⟩ ⟨Bx, hBx, hX, rfl⟩ hlt
    have hnp : pre.length = n' := by have := hR.len; simpa using this
    have HNP := Lib.hid hnp
    have hn1 : n' ≤ 1000 := by have := HL.out; omega
    have o0 := hO.cell 0 _ rfl
    have x0 := hX.cell 0 _ rfl
    have x1 := hX.cell 1 _ rfl
    have HO := Lib.hid hO
    have HR := Lib.hid hR
    have HBW := Lib.hid hB
    have Hsrc := Lib.hid (Src.oneR (P := Try.prog) W 25 42 Try.underlying25 (eiC x) rfl (eiC_one x) #[.string (st x.1), .int .i64 x.2.1, .int .i64 x.2.2] rfl 42)
    have hsz : w.heap.size ≤ (W.alloc (.cells #[.string (st x.1), .int .i64 x.2.1, .int .i64 x.2.2] 42)).heap.size := by have := hB.size; simp; omega
    clear hnp hO hX hR hB hr
    gi_wp2_with (gi_at_builtin; refine wpListIn_appendE entsElem rfl (.tmp 15) (.tmp 19) 25 rfl w.heap.size A' n' c' pre rfl (HR.out.alloc _) _ rfl x Hsrc.out (by omega) (by omega) hsz ?_; intro A3 n3 c3 w3 hn3 hown3 hg3 hf3; have hbo := box_after HO.out HR.out (by decide) _ hg3; have y0 := hbo.cell 0 _ rfl; have yf := hbo.free 0; have HG3 := Lib.hid hg3; have HF3 := Lib.hid hf3; have HW3 := Lib.hid hown3; clear hbo hg3 hf3 hown3)
    obtain ⟨a1, a2, a3, a4⟩ := append_kp HO.out HR.out (by decide) _ HG3.out HF3.out n3 c3
    refine ⟨a1.from _, a2, A3, n3, c3, a3, ?_, ?_⟩
    · exact Own.keepGI HW3.out a4 (fun b hb e => by
        have e' : b = w.heap.size := e
        subst e'
        rcases HF3.out with hA | ⟨b', hA, hb'⟩
        · subst hA; exact HR.out.ne HO.out (by decide) hb
        · subst hA
          have : b' = w.heap.size := by simpa [InBlk] using hb
          have := HO.out.lt
          simp at hb'
          omega)
    · exact below_app HBW.out HR.out _ HG3.out a4
  case done =>
    rintro D xs W hD rfl ⟨A', n', c', hO, hR, hB⟩ hK
    have o0 := hO.cell 0 _ rfl
    have HNP := Lib.hid (show n' = nn by have h1 := hR.len; have := HL.out; simp at h1; omega)
    have HO := Lib.hid hO
    have HR := Lib.hid hR
    have HBW := Lib.hid hB
    have HK := Lib.hid hK
    clear hO hR hB hK
    gi_wp2
    refine ⟨by simp, .inl ⟨_, _, rfl, run_takeDeferred HK.out, ?_⟩⟩
    refine ⟨_, results_tmp2 rfl _ _ _, A', c', by rw [← HNP.out]; rfl, ?_, ?_⟩
    · rw [← HNP.out]
      exact OwR.kept (B := 0) HR.out (grownBy_putObj' W D _) (fun r e => by cases e; exact ⟨Nat.zero_le _, _, HK.out, rfl⟩)
    · exact HBW.out.trans (belowK_b (w := w) (Nat.le_refl _) W D _ _ (by omega) HK.out rfl rfl)
  case stop =>
    rintro D c pre W hD _ h _
    exact h.elim
end Go.Proofs.Ytoaemkbdfinaoaa
