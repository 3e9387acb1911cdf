/-
  The law DirRow, walked.
-/
import Derived.Test.YtoaemkbdfinaoaaDirK
namespace Go.Proofs.Ytoaemkbdfinaoaa
open Go.RowKit
set_option linter.unusedVariables false
set_option linter.unusedSimpArgs false

theorem Srt.head {x : EntI} {es : List EntI} (h : Srt (x :: es)) : ∀ e ∈ es, lessB x.1 e.1 = true := by
  intro e he
  obtain ⟨k, hk⟩ := List.getElem?_of_mem he
  exact h 0 (k + 1) x e rfl (by simpa using hk) (by omega)
/-- Rows of the same entries are one. -/
theorem srt_ext : ∀ (a b : List EntI), Srt a → Srt b → (∀ e, e ∈ a ↔ e ∈ b) → a = b
  | [], [], _, _, _ => rfl
  | [], y :: b, _, _, h => absurd ((h y).2 List.mem_cons_self) (by simp)
  | x :: a, [], _, _, h => absurd ((h x).1 List.mem_cons_self) (by simp)
  | x :: a, y :: b, ha, hb, h => by
    have hxy : x = y := by
      rcases List.mem_cons.1 ((h x).1 List.mem_cons_self) with e | e
      · exact e
      · rcases List.mem_cons.1 ((h y).2 List.mem_cons_self) with e2 | e2
        · exact e2.symm
        · have h1 := hb.head x e
          have h2 := ha.head y e2
          have := less_trans _ _ _ h1 h2
          rw [less_irrefl] at this
          cases this
    subst hxy
    have : a = b := srt_ext a b ha.tail hb.tail (fun e => ⟨fun he => by
      rcases List.mem_cons.1 ((h e).1 (List.mem_cons_of_mem _ he)) with e1 | e1
      · subst e1
        have := ha.head e he
        rw [less_irrefl] at this; cases this
      · exact e1, fun he => by
      rcases List.mem_cons.1 ((h e).2 (List.mem_cons_of_mem _ he)) with e1 | e1
      · subst e1
        have := hb.head e he
        rw [less_irrefl] at this; cases this
      · exact e1⟩)
    rw [this]
def entN (s : List UInt8) : EntI := (s, 0, (s.length : Int))
/-- The entries are the first j names'. -/
def MemX (f : Nat → Option Int) (j : Nat) (es : List EntI) : Prop := ∀ e, e ∈ es ↔ ∃ i, i < j ∧ ∃ z, f i = some z ∧ e = entN (ofW z)
theorem mem_insE (es : List EntI) (i : Nat) (e x : EntI) : x ∈ insE es i e ↔ x = e ∨ x ∈ es := by
  unfold insE
  rw [List.mem_append, List.mem_cons]
  constructor
  · rintro (h | h | h)
    · exact .inr (List.mem_of_mem_take h)
    · exact .inl h
    · exact .inr (List.mem_of_mem_drop h)
  · rintro (h | h)
    · exact .inr (.inl h)
    · rw [← List.take_append_drop i es, List.mem_append] at h
      rcases h with h | h
      · exact .inl h
      · exact .inr (.inr h)
theorem putE_len (es : List EntI) (s : List UInt8) (i g : Int) : (putE es s i g).1.length ≤ es.length + 1 := by
  unfold putE
  split
  · simp
  · split
    · simp
    · rw [insE_len _ _ _ (posN_le _ _)]; simp
theorem memX_put (f : Nat → Option Int) (j : Nat) (es : List EntI) (z : Int) (h : MemX f j es) (hf : f j = some z) : MemX f (j + 1) (putE es (ofW z) 0 ((ofW z).length : Int)).1 := by
  have hn : isName (ofW z) = true := (ofW_ok z).1
  unfold putE
  rw [hn, if_neg (by simp)]
  have step : ∀ e, (∃ i, i < j + 1 ∧ ∃ z', f i = some z' ∧ e = entN (ofW z')) ↔ (e = entN (ofW z) ∨ e ∈ es) := by
    intro e
    rw [h e]
    constructor
    · rintro ⟨i, hi, z', h1, h2⟩
      rcases Nat.lt_or_ge i j with hlt | hge
      · exact .inr ⟨i, hlt, z', h1, h2⟩
      · obtain rfl : i = j := by omega
        rw [hf] at h1; injection h1 with h1; subst h1
        exact .inl h2
    · rintro (h1 | ⟨i, hi, z', h1, h2⟩)
      · exact ⟨j, by omega, z, hf, h1⟩
      · exact ⟨i, by omega, z', h1, h2⟩
  by_cases hh : hasN es (ofW z) = true
  · rw [if_pos hh]
    intro e
    rw [step e]
    constructor
    · exact fun he => .inr he
    · rintro (he | he)
      · unfold hasN at hh
        rw [List.any_eq_true] at hh
        obtain ⟨a, ha, hs⟩ := hh
        have hs : a.1 = ofW z := by simpa using hs
        obtain ⟨i, _, z', _, h2⟩ := (h a).1 ha
        have : a = e := by rw [he, h2]; rw [h2] at hs; have hs' : ofW z' = ofW z := hs; rw [hs']
        rw [← this]; exact ha
      · exact he
  · rw [if_neg hh]
    intro e
    rw [step e, mem_insE]
    rfl
theorem DrIn.other {w0 w w' : World} {g1 g2 : Nat} {A1 A2 : Option Addr} {n1 c1 n2 c2 : Nat} {es1 es2 : List EntI} (h2 : DrIn w0 w g2 A2 n2 c2 es2) (h1 : DrIn w0 w g1 A1 n1 c1 es1) (k : Keeps (DrG g1 A1) w w') (hg : g1 ≠ g2) (hA : ∀ b, InBlk A1 b → ¬ InBlk A2 b) : DrIn w0 w' g2 A2 n2 c2 es2 :=
  ⟨h2.d.other h1.d k hg hA, h2.g0, h2.a0, h2.b.trans (h1.kb k)⟩
theorem apart_post {w : World} {g2 : Nat} {A1 A1' A2 : Option Addr} {n2 c2 : Nat} {es2 : List EntI} (h2 : Dr w g2 A2 n2 c2 es2) (hA : ∀ b, InBlk A1 b → ¬ InBlk A2 b) (hf : A1' = A1 ∨ ∃ b, A1' = some ⟨b, 0, none⟩ ∧ w.heap.size ≤ b) : ∀ b, InBlk A1' b → ¬ InBlk A2 b := by
  intro b hb h
  rcases hf with rfl | ⟨b', rfl, hb'⟩
  · exact hA b hb h
  · have := h2.in_lt b h
    have : b' = b := by simpa [InBlk] using hb
    omega
theorem int_at {w : World} {B n k : Nat} {A : Option Addr} {zs : List Int} (h : RdV w B A n (kv .i64 zs)) (hk : k < n) :
    ∃ b off z, A = some ⟨b, off, none⟩ ∧ zs[k]? = some z ∧ w.cell? ⟨b, off + k, none⟩ = some (.int .i64 z) := by
  obtain ⟨b, off, u, hA, _, hu, hc⟩ := h.at_ hk
  unfold kv at hu
  rw [List.getElem?_map] at hu
  cases hz : zs[k]? with
  | none => rw [hz] at hu; cases hu
  | some z =>
    rw [hz] at hu
    injection hu with hu
    subst hu
    exact ⟨b, off, z, hA, rfl, hc⟩
def DrowJ (w : World) (f1 f2 : Nat → Option Int) (g1 g2 k : Nat) (x : Value) (wr : World) : Prop :=
  ∃ (j : Nat) (A1 : Option Addr) (n1 c1 : Nat) (es1 : List EntI) (A2 : Option Addr) (n2 c2 : Nat) (es2 : List EntI), j ≤ k ∧ x = .int .i64 j ∧ n1 ≤ j ∧ n2 ≤ j ∧ DrIn w wr g1 A1 n1 c1 es1 ∧ DrIn w wr g2 A2 n2 c2 es2 ∧ Hid (∀ b, InBlk A1 b → ¬ InBlk A2 b) ∧ Hid (MemX f1 j es1) ∧ Hid (MemX f2 j es2)

set_option maxRecDepth 100000 in
set_option maxHeartbeats 8000000 in
theorem dirRow_walk (A : Option Addr) (n c : Nat) (zs : List Int) (w : World) (h : RdV w w.heap.size A n (kv .i64 zs)) (hz : ∀ z ∈ zs, -9223372036854775808 ≤ z ∧ z ≤ 9223372036854775807) (hn : n ≤ 9223372036854775807) :
    Calls Try.prog 4 #[.slice A n c] w fun e w' => e = .returned (.bool true) ∧ Below w.heap.size w w' := by
  have H := Lib.hid h
  have HZ := Lib.hid hz
  have HL := Lib.hid (show zs.length = n by have := h.1; simpa [kv] using this)
  clear h hz
  go_enter Try.func4, Try.ntmps4
  go_wp2_with fail
  refine (new_any _).mono ?_
  rintro e w1 ⟨rfl, hd1, hb1⟩
  have H1 := Lib.hid (DrIn.new hd1 (Below.refl _ _) hb1)
  clear hd1 hb1
  go_wp2_with fail
  refine (new_any _).mono ?_
  rintro e w2 ⟨rfl, hd2, hb2⟩
  have H2 := Lib.hid (H1.out.up hb2)
  have H3 := Lib.hid (DrIn.new hd2 H1.out.b hb2)
  have hgg : w.heap.size < w1.heap.size := H1.out.d.b.lt
  obtain ⟨g2, hg2⟩ : ∃ g, g = w1.heap.size := ⟨_, rfl⟩
  rw [← hg2] at H3 hgg ⊢
  clear hd2 hb2 hg2
  go_upto_region 6 with fail
  obtain ⟨k, hk, hk10, hkn⟩ : ∃ k : Nat, (if (10 : Int) < (n : Int) then (10 : Int) else (n : Int)) = (k : Int) ∧ k ≤ 10 ∧ k ≤ n := by
    by_cases h : (10 : Int) < n
    · exact ⟨10, by rw [if_pos h]; rfl, by omega, by omega⟩
    · exact ⟨n, by rw [if_neg h], by omega, by omega⟩
  rw [hk]
  clear hk
  go_wp2
  go_loopw [6] (fun x wr => DrowJ w (fun i => zs[i]?) (fun i => zs[k - 1 - i]?) w.heap.size g2 k x wr) (fun x _ => k - (intOf x).toNat)
  case atStart => exact ⟨0, none, 0, 0, [], none, 0, 0, [], by omega, rfl, by omega, by omega, H2.out, H3.out, Lib.hid (fun b e => by cases e), Lib.hid (fun e => ⟨fun h => (by cases h), fun ⟨i, hi, _⟩ => absurd hi (by omega)⟩), Lib.hid (fun e => ⟨fun h => (by cases h), fun ⟨i, hi, _⟩ => absurd hi (by omega)⟩)⟩
  case round =>
    obtain ⟨j, A1, n1, c1, es1, A2, n2, c2, es2, hj, rfl, hn1, hn2, hd1, hd2, hap, hm1, hm2⟩ := hrel
    by_cases hlt : j < k
    · have j1 : (j : Int) < k := by omega
      have j0 : (0 : Int) ≤ j := by omega
      have j2 : (j : Int) < n := by omega
      obtain ⟨p, hp⟩ : ∃ p, p = k - 1 - j := ⟨_, rfl⟩
      have p1 : (k : Int) - 1 - j = p := by omega
      have p2 : (p : Int) < n := by omega
      have p0 : (0 : Int) ≤ p := by omega
      obtain ⟨b, off, z1, hA, hz1, hc1⟩ := int_at (H.out.below hd1.b) (show j < n by omega)
      obtain ⟨b', off', z2, hA', hz2, hc2⟩ := int_at (H.out.below hd1.b) (show p < n by omega)
      subst hA
      injection hA' with hA'
      injection hA' with hA1 hA2
      subst hA1 hA2
      have hzb1 := HZ.out z1 (List.mem_of_getElem? hz1)
      have hzb2 := HZ.out z2 (List.mem_of_getElem? hz2)
      have HM1 := Lib.hid (memX_put _ j es1 z1 hm1.out hz1)
      have HM2 := Lib.hid (memX_put _ j es2 z2 hm2.out (by show zs[k - 1 - j]? = some z2; rw [← hp]; exact hz2))
      have HD1 := Lib.hid hd1
      have HD2 := Lib.hid hd2
      have HAP := Lib.hid hap.out
      have HPP := Lib.hid hp
      obtain ⟨z1l, z1u⟩ := hzb1
      obtain ⟨z2l, z2u⟩ := hzb2
      clear hz1 hz2 hd1 hd2 hap hm1 hm2 hp
      go_wp2_with fail
      refine (of_small z1 _ z1l z1u).mono ?_
      rintro e w3 ⟨rfl, hb3⟩
      have HD1a := Lib.hid (HD1.out.up hb3)
      have HD2a := Lib.hid (HD2.out.up hb3)
      have hc2' := cell_later hb3 hc2
      clear hc1 hc2 hb3
      go_wp2_with fail
      refine (of_small z2 _ z2l z2u).mono ?_
      rintro e w4 ⟨rfl, hb4⟩
      have HD1b := Lib.hid (HD1a.out.up hb4)
      have HD2b := Lib.hid (HD2a.out.up hb4)
      have hs1 := st_size (ofW z1)
      have hs2 := st_size (ofW z2)
      have o1 : (ofW z1).length ≤ 32 := (ofW_ok z1).2
      have o2 : (ofW z2).length ≤ 32 := (ofW_ok z2).2
      clear hc2' hb4
      go_wp2_with fail
      refine (put_any w.heap.size A1 n1 c1 es1 (ofW z1) 0 ((ofW z1).length : Int) _ HD1b.out.d (by omega) (by omega)).mono ?_
      rintro e w5 ⟨rfl, hp1⟩
      obtain ⟨A1', n1', c1', h1', hk1, hf1⟩ := HD1b.out.post hp1
      have HD1c := Lib.hid h1'
      have HD2c := Lib.hid (HD2b.out.other HD1b.out hk1 (by omega) HAP.out)
      have HAP2 := Lib.hid (apart_post HD2b.out.d HAP.out hf1)
      have hn1' : n1' ≤ j + 1 := by have h1 := HD1c.out.d.len; have h2 := putE_len es1 (ofW z1) 0 ((ofW z1).length : Int); have h3 := HD1b.out.d.len; omega
      clear hp1 h1' hk1 hf1
      go_wp2_with fail
      refine (put_any g2 A2 n2 c2 es2 (ofW z2) 0 ((ofW z2).length : Int) _ HD2c.out.d (by omega) (by omega)).mono ?_
      rintro e w6 ⟨rfl, hp2⟩
      obtain ⟨A2', n2', c2', h2', hk2, hf2⟩ := HD2c.out.post hp2
      have HD2d := Lib.hid h2'
      have HD1d := Lib.hid (HD1c.out.other HD2c.out hk2 (by omega) (fun b h1 h2 => HAP2.out b h2 h1))
      have HAP3 := Lib.hid (apart_post HD1c.out.d (fun b h1 h2 => HAP2.out b h2 h1) hf2)
      have hn2' : n2' ≤ j + 1 := by have h1 := HD2d.out.d.len; have h2 := putE_len es2 (ofW z2) 0 ((ofW z2).length : Int); have h3 := HD2c.out.d.len; omega
      clear hp2 h2' hk2 hf2
      go_wp2
      go_roundw
      case rel => exact ⟨j + 1, A1', n1', c1', _, A2', n2', c2', _, by omega, by go_num, hn1', hn2', HD1d.out, HD2d.out, Lib.hid (fun b h1 h2 => HAP3.out b h2 h1), Lib.hid HM1.out, Lib.hid HM2.out⟩
      case measure => simp [intOf]; omega
    · obtain rfl : j = k := by omega
      have j1 : ¬ (j : Int) < j := by omega
      have HE := Lib.hid (show es1 = es2 from srt_ext es1 es2 hd1.d.s hd2.d.s (fun e => by
        rw [hm1.out e, hm2.out e]
        constructor
        · rintro ⟨i, hi, z, h1, h2⟩
          exact ⟨j - 1 - i, by omega, z, by show zs[j - 1 - (j - 1 - i)]? = some z; rw [show j - 1 - (j - 1 - i) = i by omega]; exact h1, h2⟩
        · rintro ⟨i, hi, z, h1, h2⟩
          exact ⟨j - 1 - i, by omega, z, h1, h2⟩))
      have HD1 := Lib.hid hd1
      have HD2 := Lib.hid hd2
      clear hd1 hd2 hap hm1 hm2
      go_wp2_with fail
      refine (lall_any w.heap.size A1 n1 c1 es1 _ HD1.out.d (by omega)).mono ?_
      rintro e w3 ⟨Ax, cx, rfl, hox, hbx⟩
      have HX := Lib.hid hox.rd
      have HD2a := Lib.hid (HD2.out.up hbx)
      have HB3 := Lib.hid (Up.trans' HD1.out.b hbx)
      clear hox hbx
      go_wp2_with fail
      refine (lall_any g2 A2 n2 c2 es2 _ HD2a.out.d (by omega)).mono ?_
      rintro e w4 ⟨Ay, cy, rfl, hoy, hby⟩
      have HY := Lib.hid hoy.rd
      have HX4 := Lib.hid ((HX.out.below hby).more hby.size)
      have HB4 := Lib.hid (Up.trans' HB3.out hby)
      have HS := Lib.hid HD1.out.d.s
      have HL1 := Lib.hid HD1.out.d.len
      have HL2 := Lib.hid HD2.out.d.len
      clear hoy hby
      go_wp2
      go_loopw [13] (fun x wr => ∃ i : Nat, 1 ≤ i ∧ x = .int .i64 i ∧ Below w4.heap.size w4 wr ∧ (i ≤ n1 ∨ i = 1)) (fun x _ => n1 - (intOf x).toNat)
      case atStart => exact ⟨1, by omega, rfl, Below.refl _ _, .inr rfl⟩
      case round =>
        obtain ⟨i, hi1, rfl, hbw, hin⟩ := hrel
        have Hbw := Lib.hid hbw
        clear hbw
        by_cases hil : i < n1
        · have i1 : (i : Int) < n1 := by omega
          have i0 : (0 : Int) ≤ i := by omega
          obtain ⟨q, hq⟩ : ∃ q, q = i - 1 := ⟨_, rfl⟩
          have q1 : (i : Int) - 1 = q := by omega
          have q2 : (q : Int) < n1 := by omega
          have q0 : (0 : Int) ≤ q := by omega
          obtain ⟨b1, o1, r1, hA1, hbl1, hr1, _, hc1⟩ := (HX4.out.below Hbw.out).at_ (show q < n1 by omega)
          obtain ⟨b2, o2, r2, hA2, hbl2, hr2, _, hc2⟩ := (HX4.out.below Hbw.out).at_ hil
          obtain ⟨x, hx⟩ : ∃ x, es1[q]? = some x := ⟨_, List.getElem?_eq_getElem (by rw [HL1.out]; omega)⟩
          obtain ⟨y, hy⟩ : ∃ y, es1[i]? = some y := ⟨_, List.getElem?_eq_getElem (by rw [HL1.out]; exact hil)⟩
          rw [List.getElem?_map, hx] at hr1
          rw [List.getElem?_map, hy] at hr2
          obtain rfl : r1 = eiC x := by simpa using hr1.symm
          obtain rfl : r2 = eiC y := by simpa using hr2.symm
          subst hA1
          injection hA2 with hA2
          injection hA2 with hA2 hA3
          subst hA2 hA3
          have d0 : ∀ p : Abv NoG wr.drew, p.val.cell? ⟨b1, o1 + q * 3, none⟩ = some (.string (st x.1)) := cell_abv (w := wr.drew) (hc1 0 _ rfl) id
          have e0 : ∀ p : Abv NoG wr.drew, p.val.cell? ⟨b1, o1 + i * 3, none⟩ = some (.string (st y.1)) := cell_abv (w := wr.drew) (hc2 0 _ rfl) id
          have hls : Op.bytesLess x.1 y.1 = true := HS.out q i x y hx hy (by omega)
          have hwq : IntKind.i64.wrap ((i : Int) - 1) = q := by rw [q1]; exact IntWalk.i64_in _ (by omega)
          clear hc1 hc2 hr1 hr2 hx hy hbl1 hbl2 hq
          go_wp2
          refine wp_region_plan NoG [(0, false), (1, false), (2, false), (3, false), (4, false), (5, false), (6, false), (7, false), (8, false), (9, false), (10, false), (11, false)] (by kernel_rfl) (by kernel_rfl) ?_
          repeat (refine plan_take (by simp only [List.getElem?_toArray, List.getElem?_cons_succ, List.getElem?_cons_zero]; exact rfl) ?_; go_big_quiet_step (fail); refine wpQuiet_nil ?_)
          refine plan_end ?_
          clear d0 e0
          go_wp2
          go_roundw
          case rel => exact ⟨i + 1, by omega, by go_num, Hbw.out.drew, .inl (by omega)⟩
          case measure => simp [intOf]; omega
        · have i1 : ¬ (i : Int) < n1 := by omega
          go_wp2_with fail
          refine (same11_any Ax Ay n1 n2 cx cy es1 es2 _ ((HX4.out.below Hbw.out).more Hbw.out.size) ((HY.out.below Hbw.out).more Hbw.out.size) (by omega)).mono ?_
          rintro e w5 ⟨rfl, hb5⟩
          rw [show decide (es1 = es2) = true from decide_eq_true HE.out]
          have HB5 := Lib.hid (Up.trans' (Up.trans' HB4.out Hbw.out) hb5)
          clear hb5
          go_wp2_with fail
          refine (lives11_any _).mono ?_
          rintro e w6 ⟨rfl, hb6⟩
          go_wp2
          go_ret
          exact ⟨rfl, Up.trans' HB5.out hb6⟩
end Go.Proofs.Ytoaemkbdfinaoaa
