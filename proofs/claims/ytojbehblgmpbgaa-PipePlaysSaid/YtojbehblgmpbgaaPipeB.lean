/-
  Layer 5: New, Texts, Left.
-/
import Derived.Test.YtojbehblgmpbgaaPipeA
namespace Go.Proofs.Ytojbehblgmpbgaa
open Go.RowKit Go.Conc
set_option linter.unusedVariables false
set_option linter.unusedSimpArgs false

/-- The script that is laid. -/
def scr (ns : List Int) : List Int := if ns = [] then [4096] else ns
/-- A script that may be. -/
def MayS (zs : List Int) : Prop := (∀ z ∈ zs, 0 ≤ z) ∧ ∃ z ∈ zs, 0 < z
/-- A pipe that was made. -/
def Made (w : World) (zs : List Int) (g ct cr : Nat) (D : Nat → Prop) (w' : World) : Prop :=
  PL w' g ct cr D zs 0 [] ∧ (∀ k, Tri g ct cr k → w.heap.size ≤ k) ∧ (∀ k, D k → w.heap.size ≤ k) ∧ Below w.heap.size w w'
theorem Made.drew {w w' : World} {zs : List Int} {g ct cr : Nat} {D : Nat → Prop} (h : Made w zs g ct cr D w') : Made w zs g ct cr D w'.drew :=
  ⟨h.1.keeps (Keeps.drew (Keeps.refl NoG w')) (fun _ _ h => h) (fun _ _ h => h), h.2.1, h.2.2.1, ⟨h.2.2.2.os, h.2.2.2.tape, h.2.2.2.output, h.2.2.2.size, h.2.2.2.block⟩⟩
/-- What New leaves. -/
def NewPost (ns : List Int) (w : World) (e : Ending) (w' : World) : Prop :=
  (MayS (scr ns) ∧ ∃ g ct cr D, e = .returned (.tuple #[.pointer (some ⟨g, 0, none⟩), .int .i64 0]) ∧ Made w (scr ns) g ct cr D w') ∨
  (¬ MayS (scr ns) ∧ e = .returned (.tuple #[.pointer none, .int .i64 1]) ∧ Below w.heap.size w w')

theorem made_of {w w1 : World} {A : Option Addr} {n c : Nat} {zs : List Int} (hown : OwV w1 w.heap.size 3 A n c (iv zs)) (hb : Below w.heap.size w w1) (hn : 1 ≤ n) (ct cr : Nat) (o1 o2 : Obj)
    (h1 : (ct = w1.heap.size ∧ cr = w1.heap.size + 1 ∧ o1 = .chan 64 #[] false 0 0 false ∧ o2 = .chan 64 #[] false 0 0 false) ∨ (cr = w1.heap.size ∧ ct = w1.heap.size + 1 ∧ o1 = .chan 64 #[] false 0 0 false ∧ o2 = .chan 64 #[] false 0 0 false)) :
    ∃ D, Made w zs (w1.heap.size + 2) ct cr D (((w1.alloc o1).alloc o2).alloc (.cells #[.slice A n c, .int .i64 0, .chan (some ct), .chan (some cr), .slice none 0 0, .int .i64 0] 58)) := by
  obtain ⟨b, hA, hbg, hbl⟩ := hown.blk (by omega)
  have hsz := hb.size
  have e1 : (w1.alloc o1).heap.size = w1.heap.size + 1 := by simp
  have e2 : ((w1.alloc o1).alloc o2).heap.size = w1.heap.size + 2 := by simp
  have hB := Blk.new ((w1.alloc o1).alloc o2) 58 [.slice A n c, .int .i64 0, .chan (some ct), .chan (some cr), .slice none 0 0, .int .i64 0]
  rw [e2] at hB
  have hb3 : Below w1.heap.size w1 (((w1.alloc o1).alloc o2).alloc (.cells #[.slice A n c, .int .i64 0, .chan (some ct), .chan (some cr), .slice none 0 0, .int .i64 0] 58)) :=
    (((Below.refl _ _).alloc (Nat.le_refl _) _).alloc (by omega) _).alloc (by omega) _
  have g1 : (((w1.alloc o1).alloc o2).alloc (.cells #[.slice A n c, .int .i64 0, .chan (some ct), .chan (some cr), .slice none 0 0, .int .i64 0] 58)).heap[w1.heap.size]? = some o1 := by
    rw [Below.heap_alloc _ _ _ (by omega), Below.heap_alloc _ _ _ (by omega)]; exact heap_alloc_new w1 _
  have g2 : (((w1.alloc o1).alloc o2).alloc (.cells #[.slice A n c, .int .i64 0, .chan (some ct), .chan (some cr), .slice none 0 0, .int .i64 0] 58)).heap[w1.heap.size + 1]? = some o2 := by
    rw [Below.heap_alloc _ _ _ (by omega), ← e1]; exact heap_alloc_new (w1.alloc o1) _
  have hrd : RdF w1 (fun k => k = b) A n (iv zs) := ⟨hown.rd, fun _ => ⟨_, hA, rfl⟩⟩
  refine ⟨fun k => k = b, ⟨[], [], A, n, c, none, 0, 0, #[], #[], 0, 0, 0, 0, rfl, ?_⟩, ?_, ?_, hb.trans (hb3.mono hsz)⟩
  · exact
      { blk := hB
        ch := by rcases h1 with ⟨rfl, rfl, rfl, rfl⟩ | ⟨rfl, rfl, rfl, rfl⟩ <;> first | exact g1 | exact g2
        rm := by rcases h1 with ⟨rfl, rfl, rfl, rfl⟩ | ⟨rfl, rfl, rfl, rfl⟩ <;> first | exact g2 | exact g1
        ne := by omega
        dlt := fun k hk => by have := hb3.size; have : k = b := hk; omega
        dg := fun hk => by have : w1.heap.size + 2 = b := hk; omega
        dc := fun hk => by have : ct = b := hk; omega
        dr := fun hk => by have : cr = b := hk; omega
        sz := hrd.keeps (Keeps.of_below (G := NoG) hb3) (fun _ _ h => h)
        nc := hown.cap.1
        fi := RdF.nil
        nfc := Nat.le_refl _
        cfm := by unfold maxLen; omega
        tx := ⟨rfl, fun i v l h _ => by simp at h⟩
        rsz := rfl }
  · rintro k (rfl | rfl | rfl) <;> omega
  · intro k hk; have : k = b := hk; omega

theorem mk_texts (W : World) : (Instr.makeChan 55 (.int .i64 64)).run Try.prog W = .ok (.chan (some W.heap.size)) (W.alloc (.chan 64 #[] false 0 0 false)) := by kernel_rfl
theorem mk_room (W : World) : (Instr.makeChan 56 (.int .i64 64)).run Try.prog W = .ok (.chan (some W.heap.size)) (W.alloc (.chan 64 #[] false 0 0 false)) := by kernel_rfl

set_option maxHeartbeats 4000000 in
theorem newp_any (A : Option Addr) (n c : Nat) (ns : List Int) (w : World) (h : RdV w w.heap.size A n (iv ns)) (hn : n ≤ 1048576) :
    Calls Try.prog 9 #[.slice A n c] w (NewPost ns w) := by
  have H := Lib.hid h
  have hm1 := mk_texts
  have hm2 := mk_room
  clear h
  go_enter Try.func9, Try.ntmps9
  go_wp2_with fail
  refine (cloneI_any A n c (iv ns) _ H.out (iv_one ns) hn).mono ?_
  rintro e w1 ⟨A1, n1, c1, l1, hl1, rfl, hown1, hb1⟩
  rw [hl1.out] at hown1
  have hlen : ns.length = n1 := by rw [← iv_length]; exact hown1.len
  have hn0 : n1 ≤ 1048576 := by have := H.out.len; rw [iv_length] at this; omega
  have HB1 := Lib.hid hb1
  have HO1 := Lib.hid hown1
  have HL := Lib.hid hlen
  clear hl1 hown1 hlen
  by_cases h0 : n1 = 0
  · subst h0
    have hns : ns = [] := List.eq_nil_of_length_eq_zero HL.out
    have hs : scr ns = [4096] := by rw [hns]; rfl
    have HS := Lib.hid hs
    have hownB : OwV (w1.alloc (.cells #[.int .i64 4096] 3)) w.heap.size 3 (some ⟨w1.heap.size, 0, none⟩) 1 1 (iv [4096]) :=
      ⟨by simp [iv], .inr ⟨w1.heap.size, 1, #[.int .i64 4096], (0, 0), rfl, HB1.out.size, heap_alloc_new w1 _, .inl (Nat.le_refl _), Nat.le_refl _, by unfold maxLen; omega, by simp, by simp [iv]⟩⟩
    have HOB := Lib.hid hownB
    have hbB : Below w.heap.size w (w1.alloc (.cells #[.int .i64 4096] 3)) := HB1.out.alloc HB1.out.size _
    clear hownB hns hs
    go_wp2_with fail
    generalize w1.alloc (.cells #[.int .i64 4096] 3) = w2 at HOB hbB
    have HBB := Lib.hid hbB
    clear hbB
    refine (min_any _ 1 1 [4096] _ HOB.out.rd (by omega) (by omega)).mono ?_
    rintro e w3 ⟨m, ⟨hm, _⟩, rfl, rfl⟩
    obtain rfl : m = 4096 := by simpa using hm
    go_wp2_with fail
    refine (max_any _ 1 1 [4096] _ HOB.out.rd (by omega) (by omega)).mono ?_
    rintro e w4 ⟨m, ⟨hm, _⟩, rfl, rfl⟩
    obtain rfl : m = 4096 := by simpa using hm
    go_wp2_with fail
    go_region
    all_goals (go_wp2; go_ret2)
    · obtain ⟨D, hD⟩ := made_of HOB.out HBB.out (by omega) w2.heap.size (w2.heap.size + 1) _ _ (.inl ⟨rfl, rfl, rfl, rfl⟩)
      unfold NewPost
      rw [HS.out]
      exact .inl ⟨⟨by simp, 4096, by simp, by omega⟩, _, _, _, D, rfl, hD.drew⟩
    · obtain ⟨D, hD⟩ := made_of HOB.out HBB.out (by omega) (w2.heap.size + 1) w2.heap.size _ _ (.inr ⟨rfl, rfl, rfl, rfl⟩)
      unfold NewPost
      rw [HS.out]
      exact .inl ⟨⟨by simp, 4096, by simp, by omega⟩, _, _, _, D, rfl, hD.drew⟩
  · have hns : ns ≠ [] := by rintro rfl; have := HL.out; simp at this; omega
    have hs : scr ns = ns := by unfold scr; rw [if_neg hns]
    have HS := Lib.hid hs
    have h0' : ¬ (n1 : Int) = 0 := by omega
    clear hns hs
    go_wp2_with fail
    refine (min_any _ n1 c1 ns _ HO1.out.rd (by omega) (by omega)).mono ?_
    rintro e w3 ⟨m, hm, rfl, rfl⟩
    have HM := Lib.hid hm
    clear hm
    by_cases hneg : m < 0
    · go_wp2
      go_ret2
      unfold NewPost
      rw [HS.out]
      exact .inr ⟨fun hM => by have := hM.1 m HM.out.1; omega, rfl, HB1.out⟩
    · go_wp2_with fail
      refine (max_any _ n1 c1 ns _ HO1.out.rd (by omega) (by omega)).mono ?_
      rintro e w4 ⟨M, hM, rfl, rfl⟩
      have HX := Lib.hid hM
      clear hM
      by_cases hz : M = 0
      · subst hz
        go_wp2
        go_ret2
        unfold NewPost
        rw [HS.out]
        exact .inr ⟨fun hM => by obtain ⟨z, hz, hp⟩ := hM.2; have := HX.out.2 z hz; omega, rfl, HB1.out⟩
      · have hmay : MayS ns := ⟨fun z hz => by have := HM.out.2 z hz; omega, M, HX.out.1, by have := HM.out.2 M HX.out.1; omega⟩
        have HY := Lib.hid hmay
        clear hmay
        have hz1 : (M == 0) = false := by simpa using hz
        have hz2 : ¬ (m < 0 ∨ (M == 0) = true) := by simp [hz]; omega
        go_wp2_with fail
        go_region
        all_goals (go_wp2; go_ret2)
        · obtain ⟨D, hD⟩ := made_of HO1.out HB1.out (by omega) w1.heap.size (w1.heap.size + 1) _ _ (.inl ⟨rfl, rfl, rfl, rfl⟩)
          unfold NewPost
          rw [HS.out]
          exact .inl ⟨HY.out, _, _, _, D, rfl, hD.drew⟩
        · obtain ⟨D, hD⟩ := made_of HO1.out HB1.out (by omega) (w1.heap.size + 1) w1.heap.size _ _ (.inr ⟨rfl, rfl, rfl, rfl⟩)
          unfold NewPost
          rw [HS.out]
          exact .inl ⟨HY.out, _, _, _, D, rfl, hD.drew⟩

theorem left_any (w : World) (g ct cr : Nat) (D : Nat → Prop) (ns : List Int) (at_ : Nat) (L : List (List UInt8)) (h : PL w g ct cr D ns at_ L) :
    Calls Try.prog 20 #[.pointer (some ⟨g, 0, none⟩)] w fun e w' => e = .returned (.int .i64 (total L)) ∧ w = w' := by
  obtain ⟨f, T, A, n, c, Af, nf, cf, buf, rb, s, r, s2, r2, e, h⟩ := h
  have k5 := h.blk.cell 5 _ rfl
  clear h e
  go_enter Try.func20, Try.ntmps20
  go_wp2
  go_ret
  exact ⟨rfl, rfl⟩

theorem texts_any (w : World) (g ct cr : Nat) (D : Nat → Prop) (ns : List Int) (at_ : Nat) (L : List (List UInt8)) (h : PL w g ct cr D ns at_ L) :
    Calls Try.prog 15 #[.pointer (some ⟨g, 0, none⟩)] w fun e w' => e = .returned (.int .i64 L.length) ∧ w = w' := by
  obtain ⟨f, T, A, n, c, Af, nf, cf, buf, rb, s, r, s2, r2, e, h⟩ := h
  have k3 := h.blk.cell 3 _ rfl
  have hl : (Builtin.len_ #[56] 3 #[.chan (some cr)]).run Try.prog w = .ok (goInt rb.size) w := run_len_chan _ _ Try.underlying56 h.rm
  have hr := h.rsz
  rw [← e] at hr
  rw [hr] at hl
  clear h e hr
  go_enter Try.func15, Try.ntmps15
  go_wp2
  go_ret
  exact ⟨rfl, rfl⟩
end Go.Proofs.Ytojbehblgmpbgaa
