/-
  Layer 5: May, the law PipeNews.
-/
import Derived.Test.YtojbehblgmpbgaaPipeF
namespace Go.Proofs.Ytojbehblgmpbgaa
open Go.RowKit Go.Conc
set_option linter.unusedVariables false
set_option linter.unusedSimpArgs false

/-- make([]int, n, c). -/
theorem wpList_makeI {P : Program} {w : World} {ops : Array Oper} {rest : List Oper} {o : Oper} {a : Act} {Q : Exit → Act → World → Prop} {t : TypeId} (el : Elem P t 3 (.int .i64 0) 1 8)
    (hgd : o.guard = none) (x y : Operand) (ho : o.op = .makeSlice t x y) (kl kc : IntKind) (n c : Nat) (hx : a.eval x = .int kl n) (hy : a.eval y = .int kc c) (hnc : n ≤ c) (hc : c ≤ 1048576) (base : Nat) (hbase : base ≤ w.heap.size)
    (h : ∀ (g : Nat) (l' : List Int) (w' : World), Hid (l' = List.replicate n 0) → OwV w' base 3 (some ⟨g, 0, none⟩) n c (iv l') → Below w.heap.size w w' →
      wpList P ops Q rest (a.put o.dst (.slice (some ⟨g, 0, none⟩) n c)) w') : wpList P ops Q (o :: rest) a w := by
  obtain ⟨i, hi, hz, h2, h3⟩ := el.info
  have hr := run_make (P := P) w t 3 i (.int .i64 0) el.ht hi hz kl kc n c (by omega) (by omega) (by rw [h3]; omega) (by omega)
  simp only [Int.toNat_natCast, h2, Nat.mul_one] at hr
  refine wpList_plain hgd fun K hK => ?_
  unfold Oper.wp execOp
  simp only [ho, hx, hy, hr, Sem.run_bind, Result.andThen_ok, Sem.run_pure]
  refine hK _ _ (h w.heap.size _ _ rfl ?_ ((Below.refl _ _).alloc (Nat.le_refl _) _))
  refine ⟨by simp [iv], .inr ⟨w.heap.size, c, _, (0, 0), rfl, hbase, heap_alloc_new w _, .inl (Nat.le_refl _), hnc, by unfold maxLen; omega, by rw [size_madeCells, Nat.mul_one], ?_⟩⟩
  have e : (madeCells (Value.int IntKind.i64 0).cells c).toList = List.replicate c (Value.int .i64 0) := toList_madeCells_one _ c
  rw [e, List.take_replicate]
  simp [iv, Nat.min_eq_left hnc]

/-- The cells of a row of numbers. -/
theorem RdV.ints {w : World} {B n : Nat} {A : Option Addr} {zs : List Int} (h : RdV w B A n (iv zs)) (hn : 0 < n) : ∃ b off, A = some ⟨b, off, none⟩ ∧ b < B ∧ ∀ k, k < n → ∃ z, zs[k]? = some z ∧ w.cell? ⟨b, off + k, none⟩ = some (.int .i64 z) := by
  obtain ⟨b, off, u, rfl, hb, _, _⟩ := h.at_ hn
  refine ⟨b, off, rfl, hb, fun k hk => ?_⟩
  obtain ⟨b', off', u, e, _, hu, hc⟩ := h.at_ hk
  injection e with e
  injection e with e1 e2
  subst e1; subst e2
  rw [iv_at] at hu
  cases hh : zs[k]? with
  | none => rw [hh] at hu; simp at hu
  | some z => rw [hh] at hu; simp at hu; subst hu; exact ⟨z, rfl, hc⟩

def MyRel (n : Nat) (zs : List Int) (w : World) (some_ i : Value) (wr : World) : Prop := ∃ (k : Nat) (b : Bool), k ≤ n ∧ i = .int .i64 k ∧ some_ = .bool b ∧ wr = w ∧ (∀ z ∈ zs.take k, 0 ≤ z) ∧ (b = true ↔ n = 0 ∨ ∃ z ∈ zs.take k, 0 < z)

theorem may_any (A : Option Addr) (n c : Nat) (zs : List Int) (w : World) (h : RdV w w.heap.size A n (iv zs)) (hn2 : n ≤ 1048576) :
    Calls Try.prog 23 #[.slice A n c] w fun e w' => ∃ b : Bool, e = .returned (.bool b) ∧ Hid (b = true ↔ MayS (scr zs)) ∧ w = w' := by
  have hlen : zs.length = n := by rw [← iv_length]; exact h.len
  have HL := Lib.hid hlen
  clear hlen
  by_cases h0 : n = 0
  · subst h0
    obtain rfl : zs = [] := List.eq_nil_of_length_eq_zero HL.out
    clear h
    go_enter Try.func23, Try.ntmps23
    go_wp2
    go_loopw [3, 4] (fun s i wr => s = .bool true ∧ i = .int .i64 0 ∧ wr = w) (fun _ _ _ => 0)
    case atStart => exact ⟨rfl, rfl, rfl⟩
    case round =>
      obtain ⟨rfl, rfl, rfl⟩ := hrel
      go_wp2
      go_ret
      exact ⟨true, rfl, Lib.hid ⟨fun _ => by refine ⟨?_, 4096, ?_, by omega⟩ <;> simp [scr], fun _ => rfl⟩, rfl⟩
  · obtain ⟨b, off, rfl, hb, hcs⟩ := h.ints (by omega)
    have HC := Lib.hid hcs
    have hs : scr zs = zs := by unfold scr; rw [if_neg]; rintro rfl; have := HL.out; simp at this; omega
    have HS := Lib.hid hs
    have i1 : ((n : Int) == 0) = false := by simpa using h0
    clear hcs h hs
    go_enter Try.func23, Try.ntmps23
    go_wp2
    go_loopw [3, 4] (fun s i wr => MyRel n zs w s i wr) (fun _ i _ => n - (intOf i).toNat)
    case atStart => exact ⟨0, false, by omega, rfl, rfl, rfl, by simp, by simp [h0]⟩
    case round =>
      obtain ⟨k, s, hk, rfl, rfl, rfl, hall, hsome⟩ := hrel
      have HA := Lib.hid hall
      have HO := Lib.hid hsome
      clear hall hsome
      by_cases hlt : k < n
      · obtain ⟨z, hz, kc⟩ := HC.out k hlt
        have HZ := Lib.hid hz
        clear hz
        have j0 : (0 : Int) ≤ k := by omega
        have j1 : (k : Int) < n := by omega
        by_cases hneg : z < 0
        · go_wp2
          go_ret
          exact ⟨false, rfl, Lib.hid ⟨fun h => Bool.noConfusion h, fun h => (by
            rw [HS.out] at h
            have := h.1 z (List.mem_of_getElem? HZ.out)
            omega)⟩, rfl⟩
        · have hneg' : decide (z < 0) = false := by simp; omega
          cases s with
          | true =>
            go_wp2
            go_roundw
            case rel =>
              refine ⟨k + 1, true, by omega, by go_num, rfl, rfl, ?_, ?_⟩
              · rw [take_snoc HZ.out]
                intro y hy
                rcases List.mem_append.1 hy with hy | hy
                · exact HA.out y hy
                · simp at hy; subst hy; omega
              · rw [take_snoc HZ.out]
                refine ⟨fun _ => ?_, fun _ => rfl⟩
                rcases HO.out.1 rfl with h | ⟨y, hy, hp⟩
                · exact absurd h h0
                · exact .inr ⟨y, List.mem_append.2 (.inl hy), hp⟩
            case measure => simp [intOf]; omega
          | false =>
            go_wp2
            go_roundw
            case rel =>
              refine ⟨k + 1, decide (0 < z), by omega, by go_num, rfl, rfl, ?_, ?_⟩
              · rw [take_snoc HZ.out]
                intro y hy
                rcases List.mem_append.1 hy with hy | hy
                · exact HA.out y hy
                · simp at hy; subst hy; omega
              · rw [take_snoc HZ.out, decide_eq_true_iff]
                refine ⟨fun hp => .inr ⟨z, by simp, hp⟩, fun h => ?_⟩
                rcases h with h | ⟨y, hy, hp⟩
                · exact absurd h h0
                · rcases List.mem_append.1 hy with hy | hy
                  · exact absurd (HO.out.2 (.inr ⟨y, hy, hp⟩)) (by simp)
                  · simp at hy; subst hy; exact hp
            case measure => simp [intOf]; omega
      · obtain rfl : k = n := by omega
        go_wp2
        go_ret
        refine ⟨s, rfl, Lib.hid ?_, rfl⟩
        have ht : zs.take k = zs := List.take_of_length_le (by rw [HL.out]; omega)
        have h1 := HA.out
        have h2 := HO.out
        rw [ht] at h1 h2
        rw [HS.out, h2]
        exact ⟨fun h => ⟨h1, h.resolve_left h0⟩, fun h => .inr h.2⟩

/-- A row of three rows of numbers. -/
def Three (w : World) (b : Nat) : Prop := ∀ i, i < 3 → ∃ A n c zs, w.cell? ⟨b, i, none⟩ = some (.slice A n c) ∧ RdV w w.heap.size A n (iv zs) ∧ n ≤ 6 ∧ ∀ z ∈ zs, -9223372036854775808 ≤ z ∧ z ≤ 9223372036854775807

theorem sizes_scr {ns : List Int} {n : Nat} (hl : ns.length = n) (hn : n ≤ 6) (hb : ∀ z ∈ ns, -9223372036854775808 ≤ z ∧ z ≤ 9223372036854775807) (hm : MayS (scr ns)) : Sizes (scr ns) ∧ 0 < (scr ns).length := by
  unfold scr at *
  split at hm
  · rw [if_pos (by assumption)]; exact ⟨⟨by simp, by simp⟩, by simp⟩
  · rename_i h
    rw [if_neg h]
    exact ⟨⟨by omega, fun z hz => ⟨hm.1 z hz, (hb z hz).2⟩⟩, List.length_pos_iff.2 h⟩

set_option maxRecDepth 100000 in
set_option maxHeartbeats 4000000 in
theorem pipeNews_walk (A : Option Addr) (n c : Nat) (zs : List Int) (k0 more : Int) (w : World) (h : RdV w w.heap.size A n (iv zs)) (hz : ∀ z ∈ zs, -9223372036854775808 ≤ z ∧ z ≤ 9223372036854775807) (hn : n ≤ 9223372036854775807) (hnc : n ≤ c) (b0 : -9223372036854775808 ≤ k0) (t0 : k0 ≤ 9223372036854775807) (b1 : -9223372036854775808 ≤ more) (t1 : more ≤ 9223372036854775807) :
    Calls Try.prog 7 #[.slice A n c, .int .i64 k0, .int .i64 more] w fun e w' => e = .returned (.bool true) ∧ Below w.heap.size w w' := by
  obtain ⟨m5, hm5⟩ : ∃ m5, m5 = min n 5 := ⟨_, rfl⟩
  have hmin : (if (5 : Int) < n then (5 : Int) else n) = m5 := by rw [hm5]; split <;> omega
  have c1 : (0 : Int) ≤ m5 := by omega
  have c2 : (m5 : Int) ≤ c := by omega
  have c3 : m5 ≤ c := by omega
  have hfew : RdV w w.heap.size A m5 (iv (zs.take m5)) := by
    have := Reads.first h (k := m5) (by omega)
    rw [show iv (zs.take m5) = (iv zs).take m5 by simp [iv]]
    exact this
  have HF := Lib.hid hfew
  have hzt : ∀ z ∈ zs.take m5, -9223372036854775808 ≤ z ∧ z ≤ 9223372036854775807 := fun z h => hz z (List.mem_of_mem_take h)
  have HZ := Lib.hid hzt
  have h5 : m5 ≤ 6 := by omega
  clear hfew hzt hz h hm5
  go_enter Try.func7, Try.ntmps7
  go_wp2_with fail
  refine (around_any k0 5 _ b0 t0 (by omega) (by omega)).mono ?_
  rintro e w1 ⟨kk, _, hkk, rfl, rfl⟩
  go_upto_region 3 with (refine wpList_makeI intsElem rfl (.tmp 20) (.tmp 20) rfl .i64 .i64 kk kk rfl rfl (Nat.le_refl _) (by omega) w.heap.size (Nat.le_refl _) ?_; intro g1 l1 w1 hl1 hown1 hb1; simp only [Act.put, List.setIfInBounds_toArray, List.set_cons_succ, List.set_cons_zero])
  have hbA : Below w1.heap.size w1 (w1.alloc (.cells #[.int .i64 more] 3)) := (Below.refl _ _).alloc (Nat.le_refl _) _
  have Hsrc := Lib.hid (Src.oneV (P := Try.prog) w1 36 3 Try.underlying36 (.int .i64 more) rfl 3)
  have Hrd := Lib.hid (hown1.rd.up hbA)
  have HOW := Lib.hid hown1
  have HB1 := Lib.hid hb1
  have HBA := Lib.hid hbA
  have hw01 := hb1.size
  clear hown1 hb1 hbA
  go_upto_region 4 with (at_builtin; go_must (refine wpList_append_full intsElem rfl (.tmp 24) (.tmp 26) 36 rfl w.heap.size (some ⟨g1, 0, none⟩) kk kk _ (iv l1) rfl Hrd.out _ rfl 1 [.int .i64 more] Hsrc.out (by omega) (by omega) (by omega) (by simp; omega) ?_); intro A3 c3' w3 hown3 hb3 hblk3; simp only [Act.put, List.setIfInBounds_toArray, List.set_cons_succ, List.set_cons_zero])
  have hb03 : Below w.heap.size w w3 := HB1.out.trans ((Up.trans HBA.out hb3).mono hw01)
  have r1 := HF.out.up hb03
  have r2 := (HOW.out.rd.up HBA.out).up hb3
  have r3 : RdV w3 w3.heap.size A3 (kk + 1) (iv (l1 ++ [more])) := by rw [iv_append]; exact OwV.rd (c := c3') (base := w.heap.size) (e := 3) hown3
  have hB := Blk.new w3 36 [.slice A m5 c, .slice (some ⟨g1, 0, none⟩) kk kk, .slice A3 (kk + 1) c3']
  have hb4 : Below w3.heap.size w3 (w3.alloc (.cells #[.slice A m5 c, .slice (some ⟨g1, 0, none⟩) kk kk, .slice A3 (kk + 1) c3'] 36)) := (Below.refl _ _).alloc (Nat.le_refl _) _
  have h3 : Three (w3.alloc (.cells #[.slice A m5 c, .slice (some ⟨g1, 0, none⟩) kk kk, .slice A3 (kk + 1) c3'] 36)) w3.heap.size := by
    intro i hi
    have hl : ∀ z ∈ l1, z = 0 := by rw [hl1.out]; intro z hz; exact List.eq_of_mem_replicate hz
    match i, hi with
    | 0, _ => exact ⟨A, m5, c, _, hB.cell 0 _ rfl, r1.up hb4, h5, HZ.out⟩
    | 1, _ => exact ⟨_, kk, kk, l1, hB.cell 1 _ rfl, r2.up hb4, by omega, fun z hz => by rw [hl z hz]; omega⟩
    | 2, _ => exact ⟨A3, kk + 1, c3', l1 ++ [more], hB.cell 2 _ rfl, r3.up hb4, by omega, fun z hz => by
        rcases List.mem_append.1 hz with hz | hz
        · rw [hl z hz]; omega
        · simp at hz; subst hz; exact ⟨b1, t1⟩⟩
  have hall : Below w.heap.size w (w3.alloc (.cells #[.slice A m5 c, .slice (some ⟨g1, 0, none⟩) kk kk, .slice A3 (kk + 1) c3'] 36)) := hb03.trans (hb4.mono hb03.size)
  have hblt : w3.heap.size < (w3.alloc (.cells #[.slice A m5 c, .slice (some ⟨g1, 0, none⟩) kk kk, .slice A3 (kk + 1) c3'] 36)).heap.size := by simp
  clear r1 r2 r3 hB hb4 hb3 hown3 hblk3 hb03 Hsrc Hrd HOW HB1 HBA
  generalize w3.alloc (.cells #[.slice A m5 c, .slice (some ⟨g1, 0, none⟩) kk kk, .slice A3 (kk + 1) c3'] 36) = wz at h3 hall hblt
  generalize w3.heap.size = bb at h3 hblt
  have H3 := Lib.hid h3
  have HALL := Lib.hid hall
  have hw0z := hall.size
  clear h3 hall
  go_wp2
  go_loopw [10] (fun i wr => RoundRel 3 wz i wr) (fun i _ => 3 - (intOf i).toNat)
  case atStart => exact ⟨0, by omega, rfl, Below.refl _ _⟩
  case round =>
    obtain ⟨i, hi, rfl, hbi⟩ := hrel
    by_cases hlti : i < 3
    · obtain ⟨Ai, ni, ci, zi, kc, hrd, hni, hzi⟩ := H3.out i hlti
      have kr := cell_later hbi kc
      have i2 : (i : Int) < 3 := by omega
      have i0 : (0 : Int) ≤ i := by omega
      have hleni : zi.length = ni := by rw [← iv_length]; exact hrd.len
      have HRD := Lib.hid (hrd.up hbi)
      have HZI := Lib.hid hzi
      have HBI := Lib.hid hbi
      have HLI := Lib.hid hleni
      clear kc hrd hzi hleni
      go_wp2_with fail
      refine (newp_any Ai ni ci zi _ HRD.out (by omega)).mono ?_
      rintro e w4 (⟨hmay, g, ct, cr, D, rfl, hpl, ht, hd, hb4⟩ | ⟨hmay, rfl, hb4⟩)
      · have ks := cell_later hb4 kr
        have HPL := Lib.hid hpl
        have HT := Lib.hid ht
        have HB4 := Lib.hid hb4
        have HM := Lib.hid hmay
        clear hpl ht hd hmay kr
        go_wp2_with fail
        refine (may_any Ai ni ci zi _ (HRD.out.up HB4.out) (by omega)).mono ?_
        rintro e w5 ⟨b, rfl, hb, rfl⟩
        obtain rfl : b = true := hb.out.2 HM.out
        clear hb
        go_wp2_with fail
        refine (left_any _ g ct cr D _ 0 [] HPL.out).mono ?_
        rintro e w5 ⟨rfl, rfl⟩
        have hzero : ((total [] : Nat) : Int) = 0 := rfl
        rw [hzero]
        go_wp2_with fail
        refine (texts_any _ g ct cr D _ 0 [] HPL.out).mono ?_
        rintro e w5 ⟨rfl, rfl⟩
        have hzero2 : (([] : List (List UInt8)).length : Int) = 0 := rfl
        rw [hzero2]
        go_wp2_with fail
        have hsz := sizes_scr HLI.out hni HZI.out HM.out
        refine (drain_any g ct cr D _ 0 [] 0 _ HPL.out GoodL.nil hsz.1 hsz.2 (by omega) rfl).mono ?_
        rintro e w5 ⟨Ad, nd, cd, ls, at_, hls, rfl, hown, hpl5, _, hk5⟩
        obtain rfl : nd = 0 := by rw [← hown.len, hls.out]; rfl
        have hT : ∀ k, k < wr.heap.size → ¬ Tri g ct cr k := fun k hk ht => by have := HT.out k ht; omega
        have hb5 := (Keeps.of_below (G := Tri g ct cr) HB4.out).trans hk5
        have HB5 := Lib.hid (hb5.under (Nat.le_refl _) hT)
        clear hown hpl5 hk5 hb5 hls ks
        go_wp2
        go_roundw
        case rel => exact ⟨i + 1, by omega, by go_num, Up.trans HBI.out HB5.out⟩
        case measure => simp [intOf]; omega
      · have ks := cell_later hb4 kr
        have HB4 := Lib.hid hb4
        have HM := Lib.hid hmay
        clear hmay kr
        go_wp2_with fail
        refine (may_any Ai ni ci zi _ (HRD.out.up HB4.out) (by omega)).mono ?_
        rintro e w5 ⟨b, rfl, hb, rfl⟩
        obtain rfl : b = false := by
          cases b with
          | false => rfl
          | true => exact absurd (hb.out.1 rfl) HM.out
        clear hb ks
        go_wp2
        go_roundw
        case rel => exact ⟨i + 1, by omega, by go_num, Up.trans HBI.out HB4.out⟩
        case measure => simp [intOf]; omega
    · obtain rfl : i = 3 := by omega
      go_wp2_with fail
      refine (plives_any _).mono ?_
      rintro e w9 ⟨rfl, hb9⟩
      go_wp2
      go_ret
      exact ⟨rfl, HALL.out.trans ((Up.trans hbi hb9).mono hw0z)⟩
end Go.Proofs.Ytojbehblgmpbgaa
