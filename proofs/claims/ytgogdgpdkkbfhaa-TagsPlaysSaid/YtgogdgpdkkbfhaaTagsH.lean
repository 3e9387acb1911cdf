/-
  Layer 22: the reference's Find, Pick, Flush; Live.
-/
import Derived.Test.YtgogdgpdkkbfhaaLawTOnce
namespace Go.Proofs.Ytgogdgpdkkbfhaa
open Go.RowKit
set_option linter.unusedVariables false
set_option linter.unusedSimpArgs false

theorem flatK_split {k : Nat} {rows : List (List Value)} (hk : 0 < k) (h : ∀ r ∈ rows, r.length = k) : ∀ (j : Nat) (v : Value), rows.flatten[j]? = some v → ∃ i j' r, j = i * k + j' ∧ rows[i]? = some r ∧ r[j']? = some v := by
  induction rows with
  | nil => intro j v hv; simp at hv
  | cons r0 rs ih =>
    intro j v hv
    have h0 := h r0 List.mem_cons_self
    simp only [List.flatten_cons] at hv
    rcases Nat.lt_or_ge j r0.length with hj | hj
    · rw [List.getElem?_append_left hj] at hv
      exact ⟨0, j, r0, by omega, rfl, hv⟩
    · rw [List.getElem?_append_right hj] at hv
      obtain ⟨i, j', r, e, hr, hv'⟩ := ih (fun x hx => h x (List.mem_cons_of_mem _ hx)) _ v hv
      exact ⟨i + 1, j', r, by rw [Nat.add_mul]; omega, by simpa using hr, hv'⟩
theorem RdR.reads {w : World} {B k n : Nat} {A : Option Addr} {rs : List (List Value)} (hk : 0 < k) (h : RdR w B k A n rs) : Reads w B k A n rs.flatten := by
  refine ⟨by rw [flatK_length h.1, h.2.1], fun hn => ?_⟩
  obtain ⟨b, off, hA, hb, hc⟩ := h.2.2 hn
  refine ⟨_, hA, hb, fun j u hu => ?_⟩
  obtain ⟨i, j', r, rfl, hr, hv⟩ := flatK_split hk h.1 j u hu
  rw [add_plain, ← Nat.add_assoc]
  exact hc i j' r u hr hv
theorem RdR.src {P : Program} {w : World} {B k n c : Nat} {A : Option Addr} {rs : List (List Value)} (hk : 0 < k) (h : RdR w B k A n rs) (u e : TypeId) (hu : P.underlying u = some (.slice e)) (h1 : ∀ r ∈ rs, ∀ v ∈ r, v.oneCell' = true) : Src P w u k (.slice A n c) n rs.flatten :=
  Src.ofReads u e hu (h.reads hk) (fun v hv => by
    obtain ⟨r, hr, hv'⟩ := List.mem_flatten.1 hv
    exact h1 r hr v hv')
theorem RdR.first22 {w : World} {B k n : Nat} {A : Option Addr} {rs : List (List Value)} (h : RdR w B k A n rs) {m : Nat} (hm : m ≤ n) : RdR w B k A m (rs.take m) := by
  refine ⟨fun r hr => h.1 r (List.mem_of_mem_take hr), by rw [List.length_take, h.2.1]; omega, fun h0 => ?_⟩
  obtain ⟨b, off, hA, hlt, hc⟩ := h.2.2 (by omega)
  refine ⟨b, off, hA, hlt, fun i j r v hr hv => hc i j r v ?_ hv⟩
  rw [List.getElem?_take] at hr
  split at hr
  · exact hr
  · cases hr
/-- From m on, as the model writes the cut. -/
theorem RdR.cut {w : World} {B k n c : Nat} {A : Option Addr} {rs : List (List Value)} (h : RdR w B k A n rs) {m : Nat} (hm : m ≤ n) (hc : n ≤ c) : RdR w B k (if c = m then A else A.map (·.add (m * k))) (n - m) (rs.drop m) := by
  refine ⟨fun r hr => h.1 r (List.mem_of_mem_drop hr), by rw [List.length_drop, h.2.1], fun h0 => ?_⟩
  obtain ⟨b, off, hA, hlt, hcell⟩ := h.2.2 (by omega)
  subst hA
  rw [if_neg (by omega)]
  refine ⟨b, off + m * k, by rw [Option.map_some, add_plain], hlt, fun i j r v hr hv => ?_⟩
  rw [List.getElem?_drop] at hr
  have := hcell (m + i) j r v hr hv
  rw [show off + m * k + i * k + j = off + (m + i) * k + j by rw [Nat.add_mul]; omega]
  exact this

theorem RdR.drew22 {w : World} {B k n : Nat} {A : Option Addr} {rs : List (List Value)} (h : RdR w B k A n rs) : RdR w.drew B k A n rs := h
/-- append of some structs onto a row of the call's own. -/
theorem wpList_appendRs {P : Program} {w : World} {ops : Array Oper} {rest : List Oper} {o : Oper} {a : Act} {Q : Exit → Act → World → Prop} {t e : TypeId} {z : Value} {k bytes : Nat} (el : Elem P t e z k bytes)
    (hgd : o.guard = none) (s x : Operand) (u : TypeId) (ho : o.op = .call { callee := .builtin .append, args := #[s, x], argTypes := #[t, u] })
    (base : Nat) (A0 : Option Addr) (n0 c0 : Nat) (rs : List (List Value)) (hs : a.eval s = .slice A0 n0 c0) (hown : OwR w base e k A0 n0 c0 rs)
    (xv : Value) (hx : a.eval x = xv) (m : Nat) (rs2 : List (List Value)) (hrl : ∀ r ∈ rs2, r.length = k) (hm : rs2.length = m) (hsrc : Src P w u k xv m rs2.flatten)
    (h63 : n0 + m ≤ 1073741824) (hby : bytes ≤ 65536) (hbase : base ≤ w.heap.size)
    (h : ∀ (A : Option Addr) (n c : Nat) (rs' : List (List Value)) (w' : World), Hid (rs' = rs ++ rs2) → Hid (n = n0 + m) → OwR w' base e k A n c rs' → Below base w w' → w.grownBy w' (A0.map (·.block)) →
      wpList P ops Q rest (a.put o.dst (.slice A n c)) w') : wpList P ops Q (o :: rest) a w := by
  refine wpList_append_mine el hgd s x u ho base (.slice A0 n0 c0) n0 rs.flatten hs hown.2.2 xv hx m rs2.flatten hsrc h63 hby hbase ?_
  intro A c w' ho' hg _
  have hrr : (Value.slice A0 n0 c0).ownBlock = A0.map (·.block) := by cases A0 <;> rfl
  rw [hrr] at hg
  refine h A (n0 + m) c (rs ++ rs2) w' rfl rfl ⟨?_, by simp [hown.2.1, hm], by simpa using ho'⟩ ⟨hg.os, hg.tape, hg.output, hg.size, fun k hk => hg.block k (by omega) (fun e => ?_)⟩ hg
  · intro q hq
    rcases List.mem_append.1 hq with hq | hq
    · exact hown.1 q hq
    · exact hrl q hq
  · have := (Own.lt hown.2.2 k (by rw [hrr]; exact e.symm)).1
    omega

def RfRel (n : Nat) (ts : List Int) (tag : Int) (w : World) (v : Value) (wr : World) : Prop := ∃ i : Nat, i ≤ n ∧ v = .int .i64 i ∧ wr = w ∧ i ≤ ts.findIdx (· == tag)

set_option maxHeartbeats 2000000 in
theorem refFind_any (A : Option Addr) (n c : Nat) (os : List (List Value)) (ts : List Int) (tag : Int) (w : World) (h : RdR w w.heap.size 14 A n os) (ht : TagsAre os n ts) (hn20 : n ≤ 1048576) :
    Calls Try.prog 23 #[.slice A n c, .int .i64 tag] w fun e w' => e = .returned (.int .i64 (placeL ts tag)) ∧ w = w' := by
  have H := Lib.hid h
  have HT := Lib.hid ht
  clear h ht
  go_enter Try.func23, Try.ntmps23
  go_wp2
  go_loopw [5] (fun v wr => RfRel n ts tag w v wr) (fun v _ => n - (intOf v).toNat)
  case atStart => exact ⟨0, by omega, rfl, rfl, by omega⟩
  case round =>
    obtain ⟨i, hi, rfl, rfl, hf⟩ := hrel
    by_cases hlt : i < n
    · have hl : i < ts.length := by rw [HT.out.1]; exact hlt
      obtain ⟨r, hr, hv⟩ := HT.out.2 i ts[i] (List.getElem?_eq_getElem hl)
      obtain ⟨b, off, r', hA, _, hr', _, hc⟩ := H.out.at_ hlt
      obtain rfl : r' = r := Option.some.inj (hr'.symm.trans hr)
      subst hA
      have kc := hc 1 _ hv
      have hi0 : (0 : Int) ≤ i := by omega
      have hin : (i : Int) < n := by omega
      obtain ⟨x, hx⟩ : ∃ x, x = ts[i] := ⟨_, rfl⟩
      rw [← hx] at kc
      clear hc hr hr' hv
      by_cases he : x = tag
      · have hp : placeL ts tag = i := by
          have h1 : ts.findIdx (· == tag) = i := Nat.le_antisymm (by
            rcases Nat.lt_or_ge i (ts.findIdx (· == tag)) with h2 | h2
            · exact absurd (hx.symm.trans he) (by simpa using List.not_of_lt_findIdx h2)
            · exact h2) hf
          unfold placeL
          rw [h1, if_pos hl]
        have HP := Lib.hid hp
        clear hp hx
        go_wp2
        go_ret
        exact ⟨by rw [HP.out]; rfl, rfl⟩
      · have hnx : i + 1 ≤ ts.findIdx (· == tag) := by
          rcases Nat.lt_or_ge i (ts.findIdx (· == tag)) with h2 | h2
          · omega
          · have h3 : ts.findIdx (· == tag) = i := by omega
            have h4 := List.findIdx_getElem (p := (· == tag)) (xs := ts) (w := by omega)
            simp only [h3, ← hx] at h4
            exact absurd (by simpa using h4) he
        have HNX := Lib.hid hnx
        clear hnx hx
        go_wp2
        go_roundw
        case rel => exact ⟨i + 1, by omega, by go_num, rfl, HNX.out⟩
        case measure => simp [intOf]; omega
    · obtain rfl : i = n := by omega
      have hin : ¬ (i : Int) < i := by omega
      have hp : placeL ts tag = -1 := by
        unfold placeL
        rw [if_neg (by have := HT.out.1; omega)]
      have HP := Lib.hid hp
      clear hp
      go_wp2
      go_ret
      exact ⟨by rw [HP.out]; rfl, rfl⟩

/-- Live. -/
def LvRel (g n : Nat) (ts : List Int) (w : World) (v i : Value) (wr : World) : Prop :=
  ∃ (j c : Nat) (A : Option Addr), j ≤ n ∧ i = .int .i64 j ∧ v = .slice A j c ∧ OwV wr w.heap.size 3 A j c ((ts.take j).map (Value.int .i64)) ∧ Below w.heap.size w wr
theorem intElem22 : Elem Try.prog 23 3 (.int .i64 0) 1 8 := elem_of Try.underlying23 (by kernel_rfl) rfl (by omega)
set_option maxHeartbeats 2000000 in
theorem live_any (g : Nat) (rows : List (List Value)) (n most : Nat) (ts : List Int) (w : World) (h : TG w g rows n most) (ht : TagsAre rows n ts) :
    Calls Try.prog 36 #[.pointer (some ⟨g, 0, none⟩)] w fun e w' => ∃ A c, e = .returned (.slice A n c) ∧ OwV w' w.heap.size 3 A n c (ts.map (Value.int .i64)) ∧ Below w.heap.size w w' := by
  have hn8 : n ≤ 8 := Nat.le_trans h.2.2.1 h.2.2.2.1
  have kn := h.n_at
  have H := Lib.hid h
  have HT := Lib.hid ht
  clear h ht
  go_enter Try.func36, Try.ntmps36
  go_wp2
  go_loopw [3, 9] (fun v i wr => LvRel g n ts w v i wr) (fun _ i _ => n - (intOf i).toNat)
  case atStart => exact ⟨0, 0, none, by omega, rfl, rfl, OwV.nil _ _ _, Below.refl _ _⟩
  case round =>
    obtain ⟨j, c, A, hj, rfl, rfl, hO, hbw⟩ := hrel
    by_cases hlt : j < n
    · have j0 : (0 : Int) ≤ j := by omega
      have j1 : (j : Int) < n := by omega
      have j8 : (j : Int) < 8 := by omega
      have hl : j < ts.length := by rw [HT.out.1]; exact hlt
      obtain ⟨r, hr, hv⟩ := HT.out.2 j ts[j] (List.getElem?_eq_getElem hl)
      obtain ⟨x, hx⟩ : ∃ x, x = ts[j] := ⟨_, rfl⟩
      rw [← hx] at hv
      have kc := (H.out.up hbw).at_ hr hv
      have HTk := Lib.hid (show ts.take (j + 1) = ts.take j ++ [x] by rw [List.take_add_one, List.getElem?_eq_getElem hl, ← hx]; rfl)
      have HO := Lib.hid hO
      have HB := Lib.hid hbw
      have Hsrc := Lib.hid (Src.oneV (P := Try.prog) wr 23 3 Try.underlying23 (.int .i64 x) rfl 3)
      have hsz : w.heap.size ≤ (wr.alloc (.cells #[.int .i64 x] 3)).heap.size := by have := hbw.size; simp; omega
      clear hO hbw hr hv hx
      go_wp2_with (at_builtin; go_must (refine wpList_appendV intElem22 rfl (.tmp 12) (.tmp 20) 23 rfl w.heap.size A j c ((ts.take j).map (Value.int .i64)) rfl (HO.out.alloc _) _ rfl 1 [.int .i64 x] Hsrc.out (by omega) (by omega) hsz ?_); intro A3 n3 c3 l3 w3 hl3 hn3 hown3 hb3 hg3)
      obtain rfl : n3 = j + 1 := hn3.out
      obtain rfl : l3 = (ts.take (j + 1)).map (Value.int .i64) := by rw [hl3.out, HTk.out]; simp
      have HO3 := Lib.hid hown3
      have HB3 := Lib.hid ((HB.out.alloc HB.out.size (.cells #[.int .i64 x] 3)).trans hb3)
      clear hown3 hb3 hg3 kc
      go_wp2
      go_roundw
      case rel => exact ⟨j + 1, c3, A3, by omega, by go_num, rfl, HO3.out, HB3.out⟩
      case measure => simp [intOf]; omega
    · obtain rfl : j = n := by omega
      have j1 : ¬ (j : Int) < j := by omega
      have hte : ts.take j = ts := List.take_of_length_le (by rw [HT.out.1]; exact Nat.le_refl _)
      rw [hte] at hO
      clear hte
      go_wp2
      go_ret
      exact ⟨A, c, rfl, hO, hbw⟩

/-- The reference's Pick of what is there. -/
def RPickPost (w : World) (os : List (List Value)) (q k : Nat) (r : Array Value) (e : Ending) (w' : World) : Prop :=
  ∃ A c rs, Hid (rs = os.eraseIdx k) ∧ e = .returned (.tuple #[.slice A q c, .agg r, .int .i64 0]) ∧ OwR w' w.heap.size 32 14 A q c rs ∧ Below w.heap.size w w'
set_option maxRecDepth 100000 in
set_option maxHeartbeats 4000000 in
theorem refPick_in (A : Option Addr) (n c q k : Nat) (os : List (List Value)) (x0 x1 x2 x3 x4 x5 x6 x7 x8 x9 x10 x11 x12 x13 : Value) (w : World) (h : RdR w w.heap.size 14 A n os) (hnc : n ≤ c) (hn8 : n ≤ 8) (hq : n = q + 1) (hk : k ≤ q) (hr : os[k]? = some [x0, x1, x2, x3, x4, x5, x6, x7, x8, x9, x10, x11, x12, x13]) (h1 : ∀ r ∈ os, ∀ v ∈ r, v.oneCell' = true) :
    Calls Try.prog 18 #[.slice A n c, .int .i64 k] w (RPickPost w os q k #[x0, x1, x2, x3, x4, x5, x6, x7, x8, x9, x10, x11, x12, x13]) := by
  have hz := askZ_zero
  have hk0 : ¬ (k : Int) < 0 := by omega
  have hk0' : (0 : Int) ≤ k := by omega
  have hkn : (k : Int) < n := by omega
  have hkn2 : ¬ (n : Int) ≤ k := by omega
  have hkc : k ≤ c := by omega
  have hkc2 : (k : Int) ≤ c := by omega
  have hB := Blk.new w 32 [.int .i64 0, .int .i64 0, .int .i64 0, .int .i64 0, .int .i64 0, .int .i64 0, .int .i64 0, .int .i64 0, .int .i64 0, .int .i64 0, .string ByteArray.empty, .slice none 0 0, .int .i64 0, .slice none 0 0]
  have hb := (Below.refl w.heap.size w).alloc (Nat.le_refl _) (.cells #[.int .i64 0, .int .i64 0, .int .i64 0, .int .i64 0, .int .i64 0, .int .i64 0, .int .i64 0, .int .i64 0, .int .i64 0, .int .i64 0, .string ByteArray.empty, .slice none 0 0, .int .i64 0, .slice none 0 0] 32)
  have hR := h.below hb
  obtain ⟨g, hg⟩ : ∃ g, g = w.heap.size := ⟨_, rfl⟩
  have hone : ∀ v ∈ ([x0, x1, x2, x3, x4, x5, x6, x7, x8, x9, x10, x11, x12, x13] : List Value), v.oneCell' = true := h1 _ (List.mem_of_getElem? hr)
  go_enter Try.func18, Try.ntmps18
  go_upto_region 1 with fail
  generalize w.alloc (.cells #[.int .i64 0, .int .i64 0, .int .i64 0, .int .i64 0, .int .i64 0, .int .i64 0, .int .i64 0, .int .i64 0, .int .i64 0, .int .i64 0, .string ByteArray.empty, .slice none 0 0, .int .i64 0, .slice none 0 0] 32) = W at hB hb hR
  rw [← hg] at hB hb hR ⊢
  have hgW := hB.lt
  have HB := Lib.hid hB
  have Hb := Lib.hid hb
  have HR := Lib.hid hR
  have H1 := Lib.hid h1
  have HG := Lib.hid hg
  have HRK := Lib.hid hr
  clear hB hb hR h h1 hg hr
  have Hs1 := Lib.hid ((HR.out.first22 (m := k) (by omega)).src (P := Try.prog) (c := c) (by omega) 40 32 Try.underlying40 (fun r hr => H1.out r (List.mem_of_mem_take hr)))
  go_upto_region 5 with (at_builtin; go_must (refine wpList_appendRs askElem rfl (.tmp 18) (.tmp 21) 40 rfl (g + 1) none 0 0 [] rfl (OwR.nil _ _ _ _) _ rfl k (os.take k) (HR.out.first22 (m := k) (by omega)).1 (HR.out.first22 (m := k) (by omega)).2.1 Hs1.out (by omega) (by omega) hgW ?_); intro A2 n2 c2 rs2 w2 hrs2 hn2 hown2 hb2 hg2; simp only [Act.put, List.setIfInBounds_toArray, List.set_cons_succ, List.set_cons_zero])
  obtain rfl : n2 = k := by rw [hn2.out]; omega
  obtain rfl : rs2 = os.take n2 := by rw [hrs2.out]; rfl
  have hB2 := HB.out.below hb2 (Nat.lt_succ_self g)
  have hR2 := HR.out.below (hb2.mono (by omega))
  have hcut := hR2.cut (m := n2 + 1) (by omega) hnc
  have hq1 : n - (n2 + 1) = q - n2 := by omega
  rw [hq1] at hcut
  obtain ⟨b, off, r, hA, hbl, hr, _, hc⟩ := hR2.at_ (i := n2) (by omega)
  obtain rfl : r = [x0, x1, x2, x3, x4, x5, x6, x7, x8, x9, x10, x11, x12, x13] := Option.some.inj (hr.symm.trans HRK.out)
  have hnb : ¬ From g b := fun h => by have h' : g ≤ b := h; omega
  have hs1 : (n2 : Int) + 1 ≤ n := by omega
  have hs2 : n2 + 1 ≤ n := by omega
  have hs3 : (0 : Int) ≤ (n2 : Int) + 1 := by omega
  have hwr : IntKind.i64.wrap ((n2 : Int) + 1) = (n2 : Int) + 1 := IntWalk.i64_in _ (by omega)
  subst hA
  obtain ⟨Ak, hAk⟩ : ∃ Ak, (if c = n2 + 1 then some (⟨b, off, none⟩ : Addr) else some ⟨b, off + (n2 + 1) * 14, none⟩) = Ak := ⟨_, rfl⟩
  rw [Option.map_some, add_plain, hAk] at hcut
  have Hcut := Lib.hid hcut
  have HO2 := Lib.hid hown2
  have HB2 := Lib.hid hB2
  have hgs := hB2.lt
  have Hs2 := Lib.hid (hcut.drew22.src (P := Try.prog) (c := c - (n2 + 1)) (by omega) 40 32 Try.underlying40 (fun r hr => H1.out r (List.mem_of_mem_drop hr)))
  clear hcut hown2 hB2 hq
  have d0 := cell_abv (G := From g) (w := w2.drew) (hc 0 _ rfl) hnb
  have d1 := cell_abv (G := From g) (w := w2.drew) (hc 1 _ rfl) hnb
  have d2 := cell_abv (G := From g) (w := w2.drew) (hc 2 _ rfl) hnb
  have d3 := cell_abv (G := From g) (w := w2.drew) (hc 3 _ rfl) hnb
  have d4 := cell_abv (G := From g) (w := w2.drew) (hc 4 _ rfl) hnb
  have d5 := cell_abv (G := From g) (w := w2.drew) (hc 5 _ rfl) hnb
  have d6 := cell_abv (G := From g) (w := w2.drew) (hc 6 _ rfl) hnb
  have d7 := cell_abv (G := From g) (w := w2.drew) (hc 7 _ rfl) hnb
  have d8 := cell_abv (G := From g) (w := w2.drew) (hc 8 _ rfl) hnb
  have d9 := cell_abv (G := From g) (w := w2.drew) (hc 9 _ rfl) hnb
  have d10 := cell_abv (G := From g) (w := w2.drew) (hc 10 _ rfl) hnb
  have d11 := cell_abv (G := From g) (w := w2.drew) (hc 11 _ rfl) hnb
  have d12 := cell_abv (G := From g) (w := w2.drew) (hc 12 _ rfl) hnb
  have d13 := cell_abv (G := From g) (w := w2.drew) (hc 13 _ rfl) hnb
  have d0' : ∀ p : Abv (From g) w2.drew, p.val.cell? ⟨b, off + n2 * 14, none⟩ = some x0 := d0
  clear hr hc hR2
  refine wp_region_tq (From g) (.t 0 (.t 1 (.t 2 (.t 3 (.t 4 (.t 6 (.t 7 (.t 8 (.t 9 (.s 5 (.t 10 (.s 11 (.t 12 .nil))))))))))))) (by kernel_rfl) (by kernel_rfl) ?_
  repeat (refine tq_take (by simp only [List.getElem?_toArray, List.getElem?_cons_succ, List.getElem?_cons_zero]; exact rfl) ?_; go_big_quiet_step (fail); refine wpQuiet_nil ?_)
  clear d0 d1 d2 d3 d4 d5 d6 d7 d8 d9 d10 d11 d12 d13 d0'
  refine tq_solo (by simp only [List.getElem?_toArray, List.getElem?_cons_succ, List.getElem?_cons_zero]; exact rfl) ?_
  go_wp2_with (at_builtin; go_must (refine wpList_appendRs askElem rfl (.tmp 23) (.tmp 27) 40 rfl (g + 1) A2 n2 c2 (os.take n2) rfl HO2.out.drew _ rfl (q - n2) (os.drop (n2 + 1)) Hcut.out.1 Hcut.out.2.1 Hs2.out (by omega) (by omega) hgs ?_); intro A3 n3 c3 rs3 w3 hrs3 hn3 hown3 hb3 hg3)
  refine Solo.mk (keeps_below hb3 fun k hk => by have hk' : ¬ g ≤ k := hk; omega) ?_
  obtain rfl : n3 = q := by rw [hn3.out]; omega
  have hB3 := HB2.out.drew.below hb3 (Nat.lt_succ_self g)
  have HO3 := Lib.hid hown3
  have HB3 := Lib.hid (Hb.out.trans ((hb2.drew.mono (by omega)).trans (hb3.mono (by omega))))
  repeat (refine tq_take (by simp only [List.getElem?_toArray, List.getElem?_cons_succ, List.getElem?_cons_zero]; exact rfl) ?_; go_big_quiet_step (fail); refine wpQuiet_nil ?_)
  refine tq_solo (by simp only [List.getElem?_toArray, List.getElem?_cons_succ, List.getElem?_cons_zero]; exact rfl) ?_
  go_wp2_with (refine wpList_storeBlk rfl (.tmp 5) (.tmp 32) rfl rfl [x0, x1, x2, x3, x4, x5, x6, x7, x8, x9, x10, x11, x12, x13] rfl rfl (by kernel_rfl) hB3 rfl hone ?_)
  refine Solo.mk ((keeps_setRow (g := g) _ _).mono fun k hk e => by have e' : k = g := e; show g ≤ k; omega) ?_
  repeat (refine tq_take (by simp only [List.getElem?_toArray, List.getElem?_cons_succ, List.getElem?_cons_zero]; exact rfl) ?_; go_big_quiet_step (fail); refine wpQuiet_nil ?_)
  refine tq_end ?_
  have hF := hB3.setRow [x0, x1, x2, x3, x4, x5, x6, x7, x8, x9, x10, x11, x12, x13]
  have z0 := hF.cell 0 _ rfl
  have z1 := hF.cell 1 _ rfl
  have z2 := hF.cell 2 _ rfl
  have z3 := hF.cell 3 _ rfl
  have z4 := hF.cell 4 _ rfl
  have z5 := hF.cell 5 _ rfl
  have z6 := hF.cell 6 _ rfl
  have z7 := hF.cell 7 _ rfl
  have z8 := hF.cell 8 _ rfl
  have z9 := hF.cell 9 _ rfl
  have z10 := hF.cell 10 _ rfl
  have z11 := hF.cell 11 _ rfl
  have z12 := hF.cell 12 _ rfl
  have z13 := hF.cell 13 _ rfl
  have hO4 : OwR (w3.setRow g #[x0, x1, x2, x3, x4, x5, x6, x7, x8, x9, x10, x11, x12, x13]) (g + 1) 32 14 A3 n3 c3 rs3 := HO3.out.keeps (keeps_setRow (g := g) _ _) (fun k hk e => by have e' : k = g := e; omega)
  have hB4 : Below g w (w3.setRow g #[x0, x1, x2, x3, x4, x5, x6, x7, x8, x9, x10, x11, x12, x13]) := below_setRow HB3.out (Nat.le_refl _) _
  go_wp2
  refine bodyPost_ret (v := .tuple #[.slice A3 n3 c3, .agg #[x0, x1, x2, x3, x4, x5, x6, x7, x8, x9, x10, x11, x12, x13], .int .i64 0]) (by simp [results, Try.results18, go_sem, z0, z1, z2, z3, z4, z5, z6, z7, z8, z9, z10, z11, z12, z13]) rfl ⟨A3, c3, rs3, Lib.hid (by rw [hrs3.out, List.eraseIdx_eq_take_drop_succ]), rfl, hO4.lower (by rw [← HG.out]; omega), by rw [← HG.out]; exact hB4⟩
end Go.Proofs.Ytgogdgpdkkbfhaa
