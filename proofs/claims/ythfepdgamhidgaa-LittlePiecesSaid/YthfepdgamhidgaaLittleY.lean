/-
  Layer 2: the reference's Split.
-/
import Derived.Test.YthfepdgamhidgaaLittleX
import Derived.Test.YthfepdgamhidgaaPlan2
import Derived.Deep.Cut
namespace Go.Proofs.Ythfepdgamhidgaa
open Go.RowKit
set_option linter.unusedVariables false

/-- Whatever block may turn. -/
def Any : Nat → Prop := fun _ => True
theorem Keeps.any_below {B : Nat} {w w' : World} (h : Below B w w') : Keeps Any w w' := ⟨h.os, h.tape, h.output, h.size, fun k _ hn => (hn trivial).elim⟩

theorem keeps_any_setCell {w : World} {p : Addr} {u : Value} : Keeps Any w (w.setCell p u) := ⟨rfl, rfl, rfl, by simp [World.setCell], fun k _ hn => (hn trivial).elim⟩
/-- The values vs are slices of bytes that read as ls, below block B. -/
def Parts (w : World) (B : Nat) (vs : List Value) (ls : List (List UInt8)) : Prop :=
  vs.length = ls.length ∧ ∀ (i : Nat) (v : Value) (l : List UInt8), vs[i]? = some v → ls[i]? = some l → ∃ Ai ni ci, v = .slice Ai ni ci ∧ RdB w B Ai ni l ∧ ni ≤ ci ∧ ci ≤ maxLen
theorem Parts.below {w w' : World} {B : Nat} {vs : List Value} {ls : List (List UInt8)} (h : Parts w B vs ls) (k : Below B w w') : Parts w' B vs ls :=
  ⟨h.1, fun i v l hv hl => by obtain ⟨Ai, ni, ci, e, hr, hc⟩ := h.2 i v l hv hl; exact ⟨Ai, ni, ci, e, hr.below k, hc⟩⟩
theorem Parts.nil (w : World) (B : Nat) : Parts w B [] [] := ⟨rfl, fun i v l h => by simp at h⟩
theorem Parts.snoc {w : World} {B : Nat} {vs : List Value} {ls : List (List UInt8)} (h : Parts w B vs ls) {A : Option Addr} {n c : Nat} {l : List UInt8} (hr : RdB w B A n l) (h1 : n ≤ c) (h2 : c ≤ maxLen) : Parts w B (vs ++ [.slice A n c]) (ls ++ [l]) := by
  refine ⟨by simp [h.1], fun i v l' hv hl => ?_⟩
  rcases Nat.lt_or_ge i vs.length with hi | hi
  · rw [List.getElem?_append_left hi] at hv
    rw [List.getElem?_append_left (by have := h.1; omega)] at hl
    exact h.2 i v l' hv hl
  · rw [List.getElem?_append_right hi] at hv
    rw [List.getElem?_append_right (by have := h.1; omega)] at hl
    have hi0 : i - vs.length = 0 := by
      rcases Nat.eq_zero_or_pos (i - vs.length) with h' | h'
      · exact h'
      · rw [List.getElem?_eq_none (by simp; omega)] at hv; cases hv
    have hi1 : i - ls.length = 0 := by have := h.1; omega
    rw [hi0] at hv
    rw [hi1] at hl
    simp at hv hl
    subst hv hl
    exact ⟨A, n, c, rfl, hr, h1, h2⟩
theorem owBB_of {w : World} {base B : Nat} {A : Option Addr} {n c : Nat} {vs : List Value} {ls : List (List UInt8)} (h : OwV w base 22 A n c vs) (k : Parts w B vs ls) (hB : B ≤ base) (hw : B ≤ w.heap.size) : OwBB w base A n c ls := by
  refine ⟨vs, h, k.1, fun i v l hv hl => ?_⟩
  obtain ⟨Ai, ni, ci, e, hr, h1, h2⟩ := k.2 i v l hv hl
  refine ⟨Ai, ni, ci, e, hr.more hw, h1, h2, fun h0 a b ha hb => ?_, fun _ _ _ => Nat.zero_le _⟩
  obtain ⟨ad, e2, hlt, _⟩ := hr.2 h0
  rw [ha] at e2
  injection e2 with e2
  subst e2
  subst hb
  have := (Own.lt h b.block rfl).1
  omega

def SVal (A : Option Addr) (n c : Nat) (Ar : Option Addr) (nr cr : Nat) (E : Int) : List Value := [.slice A n c, .slice Ar nr cr, .int .i64 E]

def RSplitPost (w : World) (B : Nat) (S : Spl) (e : Ending) (w' : World) : Prop :=
  ∃ A n c vs ls Ar nr cr r E, Hid (ls = S.ms) ∧ Hid (r = S.rest) ∧ Hid (E = S.err) ∧ e = .returned (.agg #[.slice A n c, .slice Ar nr cr, .int .i64 E]) ∧ OwV w' w.heap.size 22 A n c vs ∧ Parts w' B vs ls ∧ RdB w' B Ar nr r ∧ Below w.heap.size w w'

def RSplRel (w : World) (B : Nat) (msize : Int) (b0 : List UInt8) (v : Value) (wr : World) : Prop :=
  ∃ A n c bl Al nl cl vs ls, v = .slice A n c ∧ Blk wr w.heap.size 47 [.slice none 0 0, .slice none 0 0, .int .i64 0] ∧ Blk wr (w.heap.size + 1) 47 [.slice Al nl cl, .slice none 0 0, .int .i64 0] ∧ RdB wr B A n bl ∧ n ≤ c ∧ c ≤ maxLen ∧ OwV wr (w.heap.size + 2) 22 Al nl cl vs ∧ Parts wr B vs ls ∧ bl.length + ls.length ≤ b0.length ∧
    splitL msize b0 = ⟨ls ++ (splitL msize bl).ms, (splitL msize bl).rest, (splitL msize bl).err⟩ ∧ Below w.heap.size w wr

theorem num4 (a b c d : UInt8) : ((num [a, b, c, d] : Nat) : Int) = (a.toNat : Int) + 256 * (b.toNat : Int) + 65536 * (c.toNat : Int) + 16777216 * (d.toNat : Int) := by
  simp only [num]
  omega

set_option maxRecDepth 100000 in
set_option maxHeartbeats 4000000 in
theorem refSplit_any (B : Nat) (A : Option Addr) (n c : Nat) (b0 : List UInt8) (msize : Int) (w : World) (hB : B ≤ w.heap.size) (h : RdB w B A n b0) (hn : n ≤ c) (hc : c ≤ maxLen) (hb : n ≤ 65536) (hm0 : -9223372036854775808 ≤ msize) (hm1 : msize ≤ 9223372036854775807) :
    Calls Try.prog 23 #[.slice A n c, .int .i64 msize] w (RSplitPost w B (splitL msize b0)) := by
  have hb0 : b0.length ≤ 65536 := by rw [h.len]; exact hb
  go_enter Try.func23, Try.ntmps23
  have hB4 : Blk ((w.alloc (.cells #[.slice none 0 0, .slice none 0 0, .int .i64 0] 47)).alloc (.cells #[.slice none 0 0, .slice none 0 0, .int .i64 0] 47)) w.heap.size 47 [.slice none 0 0, .slice none 0 0, .int .i64 0] := (Blk.new w 47 [.slice none 0 0, .slice none 0 0, .int .i64 0]).alloc _
  have hB5 : Blk ((w.alloc (.cells #[.slice none 0 0, .slice none 0 0, .int .i64 0] 47)).alloc (.cells #[.slice none 0 0, .slice none 0 0, .int .i64 0] 47)) (w.heap.size + 1) 47 [.slice none 0 0, .slice none 0 0, .int .i64 0] := by
    have h := Blk.new (w.alloc (.cells #[.slice none 0 0, .slice none 0 0, .int .i64 0] 47)) 47 [.slice none 0 0, .slice none 0 0, .int .i64 0]
    have e : (w.alloc (.cells #[.slice none 0 0, .slice none 0 0, .int .i64 0] 47)).heap.size = w.heap.size + 1 := by simp
    rw [e] at h
    exact h
  have hbb : Below w.heap.size w ((w.alloc (.cells #[.slice none 0 0, .slice none 0 0, .int .i64 0] 47)).alloc (.cells #[.slice none 0 0, .slice none 0 0, .int .i64 0] 47)) := ((Below.refl _ _).alloc (Nat.le_refl _) _).alloc (by simp) _
  go_wp2
  generalize (w.alloc (.cells #[.slice none 0 0, .slice none 0 0, .int .i64 0] 47)).alloc (.cells #[.slice none 0 0, .slice none 0 0, .int .i64 0] 47) = w1 at hB4 hB5 hbb
  go_loopw [0] (fun v wr => RSplRel w B msize b0 v wr) (fun v _ => lenV v)
  case atStart => exact ⟨A, n, c, b0, none, 0, 0, [], [], rfl, hB4, hB5, h.below (hbb.mono hB), hn, hc, OwV.nil _ _ _, Parts.nil _ _, by simp, by simp, hbb⟩
  case round =>
    obtain ⟨A1, n1, c1, bl, Al, nl, cl, vs, ls, rfl, hG4, hG5, hr, hnc, hcm, hown, hpt, hlen, hspl, hbw⟩ := hrel
    clear hB4 hB5 hbb
    have HS := Lib.hid hspl
    have hln := hr.len
    have hnl : ls.length = nl := by rw [← hpt.1]; exact hown.len
    have hsw := hbw.size
    have hcm' := hcm
    unfold maxLen at hcm'
    have hn1 : n1 ≤ 65536 := by omega
    have hnl1 : nl ≤ 65536 := by omega
    have HLN := Lib.hid hln
    have HNL := Lib.hid hnl
    have HLE := Lib.hid hlen
    have k5 := hG5.cell 0 _ rfl
    have HG4 := Lib.hid hG4
    have HG5 := Lib.hid hG5
    have hg5 := hG5.lt
    clear hspl hln hnl hlen hG4 hG5
    by_cases h4 : n1 < 4
    · have hs := split_few (msize := msize) (b := bl) (by rw [HLN.out]; exact h4)
      have hS2 := HS.out
      rw [hs] at hS2
      have HS2 := Lib.hid hS2
      have hd : decide ((3 : Int) < n1) = false := by simp; omega
      have hd2 : decide (3 < n1) = false := by simp; omega
      clear hs hS2
      go_upto_region 12 with (fail)
      repeat (first | (refine wpList_storeBlk rfl (.tmp 4) (.tmp 65) rfl rfl [.slice Al nl cl, .slice A1 n1 c1, .int .i64 0] rfl rfl (by kernel_rfl) HG4.out rfl (by simp [Value.oneCell']) ?_) | go_step)
      have hkp := keeps_setRow (g := w.heap.size) wr #[.slice Al nl cl, .slice A1 n1 c1, .int .i64 0]
      have hb9 := below_setRow hbw (g := w.heap.size) (Nat.le_refl _) #[.slice Al nl cl, .slice A1 n1 c1, .int .i64 0]
      have hbl : Below w.heap.size wr (wr.setRow w.heap.size #[.slice Al nl cl, .slice A1 n1 c1, .int .i64 0]) := below_setRow (Below.refl _ _) (Nat.le_refl _) _
      have hB9 := HG4.out.setRow [.slice Al nl cl, .slice A1 n1 c1, .int .i64 0]
      have hO9 : OwV (wr.setRow w.heap.size #[.slice Al nl cl, .slice A1 n1 c1, .int .i64 0]) (w.heap.size + 2) 22 Al nl cl vs := Own.keeps hown hkp (by intro k hk hk2; have : k = w.heap.size := hk2; omega)
      have hP9 := hpt.below (hbl.mono hB)
      have hR9 := hr.below (hbl.mono hB)
      have q0 := hB9.cell 0 _ rfl
      have q1 := hB9.cell 1 _ rfl
      have q2 := hB9.cell 2 _ rfl
      clear hB9 hkp
      generalize wr.setRow w.heap.size #[.slice Al nl cl, .slice A1 n1 c1, .int .i64 0] = W at hb9 q0 q1 q2 hO9 hP9 hR9 hbl
      refine bodyPost_ret (v := .agg #[.slice Al nl cl, .slice A1 n1 c1, .int .i64 0]) (by simp [results, Try.results23, go_sem, q0, q1, q2]) rfl ⟨Al, nl, cl, vs, ls, A1, n1, c1, bl, 0, ?_, ?_, ?_, rfl, Own.lower hO9 (by omega), hP9, hR9, hb9⟩
      · show _ = _; rw [HS2.out]; simp
      · show _ = _; rw [HS2.out]
      · show _ = _; rw [HS2.out]
    · have h4' : ¬ bl.length < 4 := by rw [HLN.out]; exact h4
      have hd4 : (3 : Int) < n1 := by omega
      obtain ⟨x0, x1, x2, x3, bt, hbl4⟩ : ∃ x0 x1 x2 x3 bt, bl = x0 :: x1 :: x2 :: x3 :: bt := by
        match bl, h4' with
        | x0 :: x1 :: x2 :: x3 :: bt, _ => exact ⟨x0, x1, x2, x3, bt, rfl⟩
        | [], h => simp at h
        | [_], h => simp at h
        | [_, _], h => simp at h
        | [_, _, _], h => simp at h
      have hcells : ∀ (i : Nat) (x : UInt8), bl[i]? = some x → i < n1 → ∃ b off, A1 = some ⟨b, off, none⟩ ∧ ∀ p : Abv NoG wr.drew, p.val.cell? ⟨b, off + i, none⟩ = some (.int .u8 (x.toNat : Int)) := by
        intro i x hx hi
        obtain ⟨b, off, y, e1, e2, e3, e4⟩ := hr.at_ hi
        rw [e3] at hx
        injection hx with hx
        subst hx
        exact ⟨b, off, e1, fun p => cell_later (below_of_drew p.below) e4⟩
      obtain ⟨b, off, hA1, m0⟩ := hcells 0 x0 (by rw [hbl4]; rfl) (by omega)
      obtain ⟨b', off', hA1', m1⟩ := hcells 1 x1 (by rw [hbl4]; rfl) (by omega)
      rw [hA1] at hA1'
      injection hA1' with e
      injection e with e1 e2
      subst e1 e2
      obtain ⟨b', off', hA1', m2⟩ := hcells 2 x2 (by rw [hbl4]; rfl) (by omega)
      rw [hA1] at hA1'
      injection hA1' with e
      injection e with e1 e2
      subst e1 e2
      obtain ⟨b', off', hA1', m3⟩ := hcells 3 x3 (by rw [hbl4]; rfl) (by omega)
      rw [hA1] at hA1'
      injection hA1' with e
      injection e with e1 e2
      subst e1 e2
      have hnum := num4 x0 x1 x2 x3
      have ht4 : bl.take 4 = [x0, x1, x2, x3] := by rw [hbl4]; rfl
      obtain ⟨v, hv⟩ : ∃ v, v = num (bl.take 4) := ⟨_, rfl⟩
      rw [← ht4, ← hv] at hnum
      have z0 := x0.toNat_lt
      have z1 := x1.toNat_lt
      have z2 := x2.toNat_lt
      have z3 := x3.toNat_lt
      have hvb : v ≤ 4294967295 := by omega
      have w0 : IntKind.i64.wrap (x0.toNat : Int) = x0.toNat := IntWalk.i64_in _ (by omega)
      have w1' : IntKind.i64.wrap (x1.toNat : Int) = x1.toNat := IntWalk.i64_in _ (by omega)
      have w2 : IntKind.i64.wrap (x2.toNat : Int) = x2.toNat := IntWalk.i64_in _ (by omega)
      have w3 : IntKind.i64.wrap (x3.toNat : Int) = x3.toNat := IntWalk.i64_in _ (by omega)
      have w4 : IntKind.i64.wrap (256 * (x1.toNat : Int)) = 256 * (x1.toNat : Int) := IntWalk.i64_in _ (by omega)
      have w5 : IntKind.i64.wrap ((x0.toNat : Int) + 256 * (x1.toNat : Int)) = (x0.toNat : Int) + 256 * (x1.toNat : Int) := IntWalk.i64_in _ (by omega)
      have w6 : IntKind.i64.wrap (65536 * (x2.toNat : Int)) = 65536 * (x2.toNat : Int) := IntWalk.i64_in _ (by omega)
      have w7 : IntKind.i64.wrap ((x0.toNat : Int) + 256 * (x1.toNat : Int) + 65536 * (x2.toNat : Int)) = (x0.toNat : Int) + 256 * (x1.toNat : Int) + 65536 * (x2.toNat : Int) := IntWalk.i64_in _ (by omega)
      have w8 : IntKind.i64.wrap (16777216 * (x3.toNat : Int)) = 16777216 * (x3.toNat : Int) := IntWalk.i64_in _ (by omega)
      have w9 : IntKind.i64.wrap ((x0.toNat : Int) + 256 * (x1.toNat : Int) + 65536 * (x2.toNat : Int) + 16777216 * (x3.toNat : Int)) = v := by rw [IntWalk.i64_in _ (by omega)]; exact hnum.symm
      have i0 : (0 : Int) < n1 := by omega
      have i1 : (1 : Int) < n1 := by omega
      have i2 : (2 : Int) < n1 := by omega
      have HV := Lib.hid hv
      subst hA1
      simp only [Nat.add_zero] at m0
      clear hcells hbl4 ht4 hnum hv
      go_wp2
      refine wp_region_plan NoG [(0, false), (1, false), (2, false), (3, false), (4, false), (5, false), (6, false), (7, false), (8, false), (9, false), (10, false), (11, false), (12, false), (13, false), (14, false), (15, false), (16, false), (17, false), (18, false), (19, false), (20, false), (21, false), (22, false)] (by kernel_rfl) (by kernel_rfl) ?_
      repeat (refine plan_take (by simp only [List.getElem?_toArray, List.getElem?_cons_succ, List.getElem?_cons_zero]; exact rfl) ?_; go_big_quiet_step (fail); refine wpQuiet_nil ?_)
      refine plan_end ?_
      clear m0 m1 m2 m3 w0 w1' w2 w3 w4 w5 w6 w7 w8 w9 z0 z1 z2 z3 i0 i1 i2
      have HG4d := Lib.hid HG4.out.drew
      have HG5d := Lib.hid HG5.out.drew
      have hrd : RdB wr.drew B (some ⟨b, off, none⟩) n1 bl := hr.drew
      have hownd : OwV wr.drew (w.heap.size + 2) 22 Al nl cl vs := hown.drew
      have hptd : Parts wr.drew B vs ls := hpt.below (Below.refl _ _).drew
      have hbwd : Below w.heap.size w wr.drew := hbw.drew
      have hg5d : w.heap.size + 1 < wr.drew.heap.size := hg5
      clear HG4 HG5 hr hown hpt hbw k5 hg5 hsw
      generalize wr.drew = wd at HG4d HG5d hrd hownd hptd hbwd hg5d
      have k5 := HG5d.out.cell 0 _ rfl
      by_cases h7 : v < 7
      · have hs := split_form (msize := msize) h4' (by rw [← HV.out]; exact h7)
        have hS2 := HS.out
        rw [hs] at hS2
        have HS2 := Lib.hid hS2
        clear hs hS2
        go_upto_region 5 with (fail)
        repeat (first | (refine wpList_storeBlk rfl (.tmp 4) (.tmp 36) rfl rfl [.slice Al nl cl, .slice none 0 0, .int .i64 2] rfl rfl (by kernel_rfl) HG4d.out rfl (by simp [Value.oneCell']) ?_) | go_step)
        have hkp := keeps_setRow (g := w.heap.size) wd #[.slice Al nl cl, .slice none 0 0, .int .i64 2]
        have hb9 := below_setRow hbwd (g := w.heap.size) (Nat.le_refl _) #[.slice Al nl cl, .slice none 0 0, .int .i64 2]
        have hbl : Below w.heap.size wd (wd.setRow w.heap.size #[.slice Al nl cl, .slice none 0 0, .int .i64 2]) := below_setRow (Below.refl _ _) (Nat.le_refl _) _
        have hB9 := HG4d.out.setRow [.slice Al nl cl, .slice none 0 0, .int .i64 2]
        have hO9 : OwV (wd.setRow w.heap.size #[.slice Al nl cl, .slice none 0 0, .int .i64 2]) (w.heap.size + 2) 22 Al nl cl vs := Own.keeps hownd hkp (by intro k hk hk2; have : k = w.heap.size := hk2; omega)
        have hP9 := hptd.below (hbl.mono hB)
        have hR9 := (RdB.nil : RdB (wd.setRow w.heap.size #[.slice Al nl cl, .slice none 0 0, .int .i64 2]) B none 0 [])
        have q0 := hB9.cell 0 _ rfl
        have q1 := hB9.cell 1 _ rfl
        have q2 := hB9.cell 2 _ rfl
        clear hB9 hkp
        generalize wd.setRow w.heap.size #[.slice Al nl cl, .slice none 0 0, .int .i64 2] = W at hb9 q0 q1 q2 hO9 hP9 hR9 hbl
        refine bodyPost_ret (v := .agg #[.slice Al nl cl, .slice none 0 0, .int .i64 2]) (by simp [results, Try.results23, go_sem, q0, q1, q2]) rfl ⟨Al, nl, cl, vs, ls, none, 0, 0, [], 2, ?_, ?_, ?_, rfl, Own.lower hO9 (by omega), hP9, hR9, hb9⟩
        · show _ = _; rw [HS2.out]; simp
        · show _ = _; rw [HS2.out]
        · show _ = _; rw [HS2.out]
      · by_cases hmx : msize < v
        · have hs := split_range (msize := msize) h4' (by rw [← HV.out]; exact h7) (by rw [← HV.out]; exact hmx)
          have hS2 := HS.out
          rw [hs] at hS2
          have HS2 := Lib.hid hS2
          clear hs hS2
          go_upto_region 7 with (fail)
          repeat (first | (refine wpList_storeBlk rfl (.tmp 4) (.tmp 42) rfl rfl [.slice Al nl cl, .slice none 0 0, .int .i64 4] rfl rfl (by kernel_rfl) HG4d.out rfl (by simp [Value.oneCell']) ?_) | go_step)
          have hkp := keeps_setRow (g := w.heap.size) wd #[.slice Al nl cl, .slice none 0 0, .int .i64 4]
          have hb9 := below_setRow hbwd (g := w.heap.size) (Nat.le_refl _) #[.slice Al nl cl, .slice none 0 0, .int .i64 4]
          have hbl : Below w.heap.size wd (wd.setRow w.heap.size #[.slice Al nl cl, .slice none 0 0, .int .i64 4]) := below_setRow (Below.refl _ _) (Nat.le_refl _) _
          have hB9 := HG4d.out.setRow [.slice Al nl cl, .slice none 0 0, .int .i64 4]
          have hO9 : OwV (wd.setRow w.heap.size #[.slice Al nl cl, .slice none 0 0, .int .i64 4]) (w.heap.size + 2) 22 Al nl cl vs := Own.keeps hownd hkp (by intro k hk hk2; have : k = w.heap.size := hk2; omega)
          have hP9 := hptd.below (hbl.mono hB)
          have hR9 := (RdB.nil : RdB (wd.setRow w.heap.size #[.slice Al nl cl, .slice none 0 0, .int .i64 4]) B none 0 [])
          have q0 := hB9.cell 0 _ rfl
          have q1 := hB9.cell 1 _ rfl
          have q2 := hB9.cell 2 _ rfl
          clear hB9 hkp
          generalize wd.setRow w.heap.size #[.slice Al nl cl, .slice none 0 0, .int .i64 4] = W at hb9 q0 q1 q2 hO9 hP9 hR9 hbl
          refine bodyPost_ret (v := .agg #[.slice Al nl cl, .slice none 0 0, .int .i64 4]) (by simp [results, Try.results23, go_sem, q0, q1, q2]) rfl ⟨Al, nl, cl, vs, ls, none, 0, 0, [], 4, ?_, ?_, ?_, rfl, Own.lower hO9 (by omega), hP9, hR9, hb9⟩
          · show _ = _; rw [HS2.out]; simp
          · show _ = _; rw [HS2.out]
          · show _ = _; rw [HS2.out]
        · by_cases hlt : n1 < v
          · have hs := split_part (msize := msize) h4' (by rw [← HV.out]; exact h7) (by rw [← HV.out]; exact hmx) (by rw [← HV.out, HLN.out]; exact hlt)
            have hS2 := HS.out
            rw [hs] at hS2
            have HS2 := Lib.hid hS2
            clear hs hS2
            go_upto_region 9 with (fail)
            repeat (first | (refine wpList_storeBlk rfl (.tmp 4) (.tmp 50) rfl rfl [.slice Al nl cl, .slice (some ⟨b, off, none⟩) n1 c1, .int .i64 0] rfl rfl (by kernel_rfl) HG4d.out rfl (by simp [Value.oneCell']) ?_) | go_step)
            have hkp := keeps_setRow (g := w.heap.size) wd #[.slice Al nl cl, .slice (some ⟨b, off, none⟩) n1 c1, .int .i64 0]
            have hb9 := below_setRow hbwd (g := w.heap.size) (Nat.le_refl _) #[.slice Al nl cl, .slice (some ⟨b, off, none⟩) n1 c1, .int .i64 0]
            have hbl : Below w.heap.size wd (wd.setRow w.heap.size #[.slice Al nl cl, .slice (some ⟨b, off, none⟩) n1 c1, .int .i64 0]) := below_setRow (Below.refl _ _) (Nat.le_refl _) _
            have hB9 := HG4d.out.setRow [.slice Al nl cl, .slice (some ⟨b, off, none⟩) n1 c1, .int .i64 0]
            have hO9 : OwV (wd.setRow w.heap.size #[.slice Al nl cl, .slice (some ⟨b, off, none⟩) n1 c1, .int .i64 0]) (w.heap.size + 2) 22 Al nl cl vs := Own.keeps hownd hkp (by intro k hk hk2; have : k = w.heap.size := hk2; omega)
            have hP9 := hptd.below (hbl.mono hB)
            have hR9 := hrd.below (hbl.mono hB)
            have q0 := hB9.cell 0 _ rfl
            have q1 := hB9.cell 1 _ rfl
            have q2 := hB9.cell 2 _ rfl
            clear hB9 hkp
            generalize wd.setRow w.heap.size #[.slice Al nl cl, .slice (some ⟨b, off, none⟩) n1 c1, .int .i64 0] = W at hb9 q0 q1 q2 hO9 hP9 hR9 hbl
            refine bodyPost_ret (v := .agg #[.slice Al nl cl, .slice (some ⟨b, off, none⟩) n1 c1, .int .i64 0]) (by simp [results, Try.results23, go_sem, q0, q1, q2]) rfl ⟨Al, nl, cl, vs, ls, (some ⟨b, off, none⟩), n1, c1, bl, 0, ?_, ?_, ?_, rfl, Own.lower hO9 (by omega), hP9, hR9, hb9⟩
            · show _ = _; rw [HS2.out]; simp
            · show _ = _; rw [HS2.out]
            · show _ = _; rw [HS2.out]
          · have hs := split_next (msize := msize) h4' (by rw [← HV.out]; exact h7) (by rw [← HV.out]; exact hmx) (by rw [← HV.out, HLN.out]; exact hlt)
            rw [← HV.out] at hs
            have hS2 := HS.out
            rw [hs] at hS2
            have HS2 := Lib.hid hS2
            have hvn1 : v ≤ n1 := by omega
            have hf2 := hrd.first (k := v) hvn1
            have HF2 := Lib.hid hf2
            obtain ⟨Ak, hAk⟩ : ∃ Ak, (if c1 = v then (some ⟨b, off, none⟩ : Option Addr) else some (⟨b, off + v, none⟩ : Addr)) = Ak := ⟨_, rfl⟩
            have hcut := hrd.cut hvn1 hnc
            have hAk' : (if c1 = v then (some ⟨b, off, none⟩ : Option Addr) else (some ⟨b, off, none⟩ : Option Addr).map (·.add v)) = Ak := by rw [← hAk]; simp only [Option.map_some, add_plain]
            rw [hAk'] at hcut
            have HC := Lib.hid hcut
            clear hs hS2 hf2 hcut hAk'
            have HG4e := Lib.hid HG4d.out.drew
            have HG5e := Lib.hid HG5d.out.drew
            have hrE : RdB wd.drew B (some ⟨b, off, none⟩) n1 bl := hrd.drew
            have hownE : OwV wd.drew (w.heap.size + 2) 22 Al nl cl vs := hownd.drew
            have hptE : Parts wd.drew B vs ls := hptd.below (Below.refl _ _).drew
            have hbwE : Below w.heap.size w wd.drew := hbwd.drew
            have hg5E : w.heap.size + 1 < wd.drew.heap.size := hg5d
            have HFe : Hid (RdB wd.drew B (some ⟨b, off, none⟩) v (bl.take v)) := HF2.out.drew
            have HCe : Hid (RdB wd.drew B Ak (n1 - v) (bl.drop v)) := HC.out.drew
            have iv0 : (0 : Int) ≤ v := by omega
            have iv1 : (v : Int) ≤ c1 := by omega
            go_wp2
            refine wp_region_plan2 Any [.t 0, .t 2, .t 3, .t 4, .b 1 5, .s 6, .t 7, .s 8] (by kernel_rfl) (by kernel_rfl) ?_
            clear HG4d HG5d hrd hownd hptd hbwd hg5d k5 HF2 HC
            generalize wd.drew = we at HG4e HG5e hrE hownE hptE hbwE hg5E HFe HCe
            have k5 := HG5e.out.cell 0 _ rfl
            repeat (refine plan2_take (by simp only [List.getElem?_toArray, List.getElem?_cons_succ, List.getElem?_cons_zero]; exact rfl) ?_; go_big_quiet_step (fail); refine wpQuiet_nil ?_)
            refine plan2_both (by simp only [List.getElem?_toArray, List.getElem?_cons_succ, List.getElem?_cons_zero]; exact rfl) (by simp only [List.getElem?_toArray, List.getElem?_cons_succ, List.getElem?_cons_zero]; exact rfl) ?_ ?_
            · go_wp2
              refine Solo.mk (Keeps.refl _ _) ?_
              go_wp2
              refine Solo.mk (Keeps.any_below ((Below.refl _ _).alloc (Nat.le_refl _) _)) ?_
              refine plan2_solo (by simp only [List.getElem?_toArray, List.getElem?_cons_succ, List.getElem?_cons_zero]; exact rfl) ?_
              refine wpList_appendV rowsElem rfl (.tmp 52) (.tmp 56) 40 rfl (w.heap.size + 2) Al nl cl vs rfl (hownE.alloc _) _ rfl 1 [.slice (some ⟨b, off, none⟩) v c1] (Src.oneV we 40 22 Try.underlying40 _ rfl _) (by omega) (by omega) (by simp; omega) ?_
              intro A5 n5 c5 vs5 w5 hvs5 hn5 hown5 hb5 hg5'
              simp only [Act.put, List.setIfInBounds_toArray, List.set_cons_zero, List.set_cons_succ]
              refine wpList_nil ?_
              refine Solo.mk (Keeps.any_below hb5) ?_
              have hbe : Below (w.heap.size + 2) we w5 := ((Below.refl _ _).alloc (show w.heap.size + 2 ≤ we.heap.size by omega) _).trans hb5
              have hG4n := HG4e.out.below hbe (by omega)
              have hG5n := HG5e.out.below hbe (by omega)
              have k5n := hG5n.cell 0 _ rfl
              have f5n := hG5n.free 0
              have hs5 := hbe.size
              have hG5s := hG5n.set 0 (.slice A5 n5 c5)
              have hG4s := hG4n.other (p := ⟨w.heap.size + 1, 0, none⟩) (by show w.heap.size + 1 ≠ w.heap.size; omega) (.slice A5 n5 c5)
              have hks : Keeps (Is (w.heap.size + 1)) w5 (w5.setCell ⟨w.heap.size + 1, 0, none⟩ (.slice A5 n5 c5)) := (Keeps.refl (Is (w.heap.size + 1)) _).setCell (p := ⟨w.heap.size + 1, 0, none⟩) (.inl rfl) _
              have hbs : Below w.heap.size w5 (w5.setCell ⟨w.heap.size + 1, 0, none⟩ (.slice A5 n5 c5)) := hks.is (by omega) (by omega)
              have hown6 : OwV (w5.setCell ⟨w.heap.size + 1, 0, none⟩ (.slice A5 n5 c5)) (w.heap.size + 2) 22 A5 n5 c5 vs5 := Own.keeps hown5 hks (by intro k hk hk2; have : k = w.heap.size + 1 := hk2; omega)
              have hbe0 := hbe.mono (show w.heap.size ≤ w.heap.size + 2 by omega)
              have hpt6 := (((hptE.snoc HFe.out (by omega) hcm)).below (hbe0.mono hB)).below (hbs.mono hB)
              have hr6 := (HCe.out.below (hbe0.mono hB)).below (hbs.mono hB)
              have hb6 := (hbwE.trans hbe0).trans hbs
              have HG4s := Lib.hid hG4s
              have HG5s := Lib.hid hG5s
              clear hG4n hG5n hG4s hG5s hown5 hb5 hbe hg5' hbe0 hks hbs
              repeat (refine plan2_take (by simp only [List.getElem?_toArray, List.getElem?_cons_succ, List.getElem?_cons_zero]; exact rfl) ?_; go_big_quiet_step (fail); refine wpQuiet_nil ?_)
              refine plan2_solo (by simp only [List.getElem?_toArray, List.getElem?_cons_succ, List.getElem?_cons_zero]; exact rfl) ?_
              go_wp2
              refine Solo.mk keeps_any_setCell ?_
              repeat (refine plan2_take (by simp only [List.getElem?_toArray, List.getElem?_cons_succ, List.getElem?_cons_zero]; exact rfl) ?_; go_big_quiet_step (fail); refine wpQuiet_nil ?_)
              refine plan2_end ?_
              go_wp2
              go_roundw
              case rel =>
                refine ⟨Ak, n1 - v, c1 - v, bl.drop v, A5, n5, c5, vs5, ls ++ [bl.take v], rfl, HG4s.out, HG5s.out, hr6, by omega, by unfold maxLen; omega, hown6, by rw [hvs5.out]; exact hpt6, ?_, ?_, hb6⟩
                · rw [List.length_append, List.length_drop]
                  have := HLE.out
                  have := HLN.out
                  simp
                  omega
                · rw [HS2.out]
                  simp
              case measure => simp [lenV]; omega
            · go_wp2
              refine Solo.mk (Keeps.any_below ((Below.refl _ _).alloc (Nat.le_refl _) _)) ?_
              have k5a := (HG5e.out.alloc (.cells #[.slice (some ⟨b, off, none⟩) v c1] 22)).cell 0 _ rfl
              go_wp2
              refine Solo.mk (Keeps.refl _ _) ?_
              clear k5a
              refine plan2_solo (by simp only [List.getElem?_toArray, List.getElem?_cons_succ, List.getElem?_cons_zero]; exact rfl) ?_
              refine wpList_appendV rowsElem rfl (.tmp 52) (.tmp 56) 40 rfl (w.heap.size + 2) Al nl cl vs rfl (hownE.alloc _) _ rfl 1 [.slice (some ⟨b, off, none⟩) v c1] (Src.oneV we 40 22 Try.underlying40 _ rfl _) (by omega) (by omega) (by simp; omega) ?_
              intro A5 n5 c5 vs5 w5 hvs5 hn5 hown5 hb5 hg5'
              simp only [Act.put, List.setIfInBounds_toArray, List.set_cons_zero, List.set_cons_succ]
              refine wpList_nil ?_
              refine Solo.mk (Keeps.any_below hb5) ?_
              have hbe : Below (w.heap.size + 2) we w5 := ((Below.refl _ _).alloc (show w.heap.size + 2 ≤ we.heap.size by omega) _).trans hb5
              have hG4n := HG4e.out.below hbe (by omega)
              have hG5n := HG5e.out.below hbe (by omega)
              have k5n := hG5n.cell 0 _ rfl
              have f5n := hG5n.free 0
              have hs5 := hbe.size
              have hG5s := hG5n.set 0 (.slice A5 n5 c5)
              have hG4s := hG4n.other (p := ⟨w.heap.size + 1, 0, none⟩) (by show w.heap.size + 1 ≠ w.heap.size; omega) (.slice A5 n5 c5)
              have hks : Keeps (Is (w.heap.size + 1)) w5 (w5.setCell ⟨w.heap.size + 1, 0, none⟩ (.slice A5 n5 c5)) := (Keeps.refl (Is (w.heap.size + 1)) _).setCell (p := ⟨w.heap.size + 1, 0, none⟩) (.inl rfl) _
              have hbs : Below w.heap.size w5 (w5.setCell ⟨w.heap.size + 1, 0, none⟩ (.slice A5 n5 c5)) := hks.is (by omega) (by omega)
              have hown6 : OwV (w5.setCell ⟨w.heap.size + 1, 0, none⟩ (.slice A5 n5 c5)) (w.heap.size + 2) 22 A5 n5 c5 vs5 := Own.keeps hown5 hks (by intro k hk hk2; have : k = w.heap.size + 1 := hk2; omega)
              have hbe0 := hbe.mono (show w.heap.size ≤ w.heap.size + 2 by omega)
              have hpt6 := (((hptE.snoc HFe.out (by omega) hcm)).below (hbe0.mono hB)).below (hbs.mono hB)
              have hr6 := (HCe.out.below (hbe0.mono hB)).below (hbs.mono hB)
              have hb6 := (hbwE.trans hbe0).trans hbs
              have HG4s := Lib.hid hG4s
              have HG5s := Lib.hid hG5s
              clear hG4n hG5n hG4s hG5s hown5 hb5 hbe hg5' hbe0 hks hbs
              repeat (refine plan2_take (by simp only [List.getElem?_toArray, List.getElem?_cons_succ, List.getElem?_cons_zero]; exact rfl) ?_; go_big_quiet_step (fail); refine wpQuiet_nil ?_)
              refine plan2_solo (by simp only [List.getElem?_toArray, List.getElem?_cons_succ, List.getElem?_cons_zero]; exact rfl) ?_
              go_wp2
              refine Solo.mk keeps_any_setCell ?_
              repeat (refine plan2_take (by simp only [List.getElem?_toArray, List.getElem?_cons_succ, List.getElem?_cons_zero]; exact rfl) ?_; go_big_quiet_step (fail); refine wpQuiet_nil ?_)
              refine plan2_end ?_
              go_wp2
              go_roundw
              case rel =>
                refine ⟨Ak, n1 - v, c1 - v, bl.drop v, A5, n5, c5, vs5, ls ++ [bl.take v], rfl, HG4s.out, HG5s.out, hr6, by omega, by unfold maxLen; omega, hown6, by rw [hvs5.out]; exact hpt6, ?_, ?_, hb6⟩
                · rw [List.length_append, List.length_drop]
                  have := HLE.out
                  have := HLN.out
                  simp
                  omega
                · rw [HS2.out]
                  simp
              case measure => simp [lenV]; omega
end Go.Proofs.Ythfepdgamhidgaa
