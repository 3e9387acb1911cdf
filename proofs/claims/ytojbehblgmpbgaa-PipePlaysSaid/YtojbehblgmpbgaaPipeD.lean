/-
  Layer 5: Next.
-/
import Derived.Test.YtojbehblgmpbgaaPipeC
namespace Go.Proofs.Ytojbehblgmpbgaa
open Go.RowKit Go.Conc
set_option linter.unusedVariables false
set_option linter.unusedSimpArgs false

section
variable {w w1 w2 : World} {g ct cr : Nat} {D G : Nat → Prop} {ns : List Int} {at_ : Nat} {f : List UInt8} {T : List (List UInt8)} {left : Int} {A : Option Addr} {n c : Nat} {Af : Option Addr} {nf cf : Nat} {buf rb : Array Value} {s r s2 r2 : Nat}
theorem PRaw.setAt (h : PRaw w g ct cr D ns at_ f T left A n c Af nf cf buf rb s r s2 r2) (i : Nat) : PRaw (w.setCell ⟨g, 1, none⟩ (.int .i64 i)) g ct cr D ns i f T left A n c Af nf cf buf rb s r s2 r2 := by
  have hk : Keeps (Is g) w (w.setCell ⟨g, 1, none⟩ (.int .i64 i)) := keeps_setCell (G := Is g) w _ rfl
  have hd : ∀ k, D k → ¬ Is g k := fun k hk e => h.dg (by have : k = g := e; rw [← this]; exact hk)
  exact { h with blk := h.blk.set 1 _, ch := (Below.heap_setCell _ _ _ _ h.gt.1.symm).trans h.ch, rm := (Below.heap_setCell _ _ _ _ h.gt.2.symm).trans h.rm, dlt := fun k hk' => Nat.lt_of_lt_of_le (h.dlt k hk') hk.size, sz := h.sz.keeps hk hd, fi := h.fi.keeps hk hd, tx := h.tx.keeps hk hd }
theorem PRaw.setLeft (h : PRaw w g ct cr D ns at_ f T left A n c Af nf cf buf rb s r s2 r2) (i : Int) : PRaw (w.setCell ⟨g, 5, none⟩ (.int .i64 i)) g ct cr D ns at_ f T i A n c Af nf cf buf rb s r s2 r2 := by
  have hk : Keeps (Is g) w (w.setCell ⟨g, 5, none⟩ (.int .i64 i)) := keeps_setCell (G := Is g) w _ rfl
  have hd : ∀ k, D k → ¬ Is g k := fun k hk e => h.dg (by have : k = g := e; rw [← this]; exact hk)
  exact { h with blk := h.blk.set 5 _, ch := (Below.heap_setCell _ _ _ _ h.gt.1.symm).trans h.ch, rm := (Below.heap_setCell _ _ _ _ h.gt.2.symm).trans h.rm, dlt := fun k hk' => Nat.lt_of_lt_of_le (h.dlt k hk') hk.size, sz := h.sz.keeps hk hd, fi := h.fi.keeps hk hd, tx := h.tx.keeps hk hd }
/-- Another first text. -/
theorem PRaw.setFirst (h : PRaw w g ct cr D ns at_ f T left A n c Af nf cf buf rb s r s2 r2) {A' : Option Addr} {n' c' : Nat} {l : List UInt8} (h1 : RdF w D A' n' (bv l)) (h2 : n' ≤ c') (h3 : c' ≤ maxLen) (h4 : (absL l T).length = (absL f T).length) :
    PRaw (w.setCell ⟨g, 4, none⟩ (.slice A' n' c')) g ct cr D ns at_ l T left A n c A' n' c' buf rb s r s2 r2 := by
  have hk : Keeps (Is g) w (w.setCell ⟨g, 4, none⟩ (.slice A' n' c')) := keeps_setCell (G := Is g) w _ rfl
  have hd : ∀ k, D k → ¬ Is g k := fun k hk e => h.dg (by have : k = g := e; rw [← this]; exact hk)
  exact { h with blk := h.blk.set 4 _, ch := (Below.heap_setCell _ _ _ _ h.gt.1.symm).trans h.ch, rm := (Below.heap_setCell _ _ _ _ h.gt.2.symm).trans h.rm, dlt := fun k hk' => Nat.lt_of_lt_of_le (h.dlt k hk') hk.size, sz := h.sz.keeps hk hd, fi := h1.keeps hk hd, nfc := h2, cfm := h3, tx := h.tx.keeps hk hd, rsz := by rw [h.rsz, h4] }
/-- The first text is told to its end. -/
theorem PRaw.gone (h : PRaw w g ct cr D ns at_ f T left A n c Af nf cf buf rb s r s2 r2) (hf : f ≠ []) (v : Value) :
    PRaw (((w.setCell ⟨g, 4, none⟩ v).setCell ⟨g, 4, none⟩ (.slice none 0 0)).setChan cr 64 (rb.extract 1 rb.size) false s2 (r2 + 1) false) g ct cr D ns at_ [] T left A n c none 0 0 buf (rb.extract 1 rb.size) s r s2 (r2 + 1) := by
  have hk : Keeps (Tri g ct cr) w (((w.setCell ⟨g, 4, none⟩ v).setCell ⟨g, 4, none⟩ (.slice none 0 0)).setChan cr 64 (rb.extract 1 rb.size) false s2 (r2 + 1) false) :=
    ((keeps_setCell (G := Tri g ct cr) w v (.inl rfl)).setCell (.inl (.inl rfl)) _).setChan (.inl (.inr (.inr rfl))) _ _ _ _ _ _
  have hlr : cr < ((w.setCell ⟨g, 4, none⟩ v).setCell ⟨g, 4, none⟩ (.slice none 0 0)).heap.size := by
    have := lt_of_some h.rm
    simpa [World.setCell] using this
  exact
    { blk := by
        have := (((h.blk.set 4 v).set 4 (.slice none 0 0)).setChan (k := cr) h.gt.2.symm 64 (rb.extract 1 rb.size) false s2 (r2 + 1) false)
        simpa using this
      ch := by
        have e : (((w.setCell ⟨g, 4, none⟩ v).setCell ⟨g, 4, none⟩ (.slice none 0 0)).setChan cr 64 (rb.extract 1 rb.size) false s2 (r2 + 1) false).heap[ct]? = ((w.setCell ⟨g, 4, none⟩ v).setCell ⟨g, 4, none⟩ (.slice none 0 0)).heap[ct]? := by
          simp only [World.setChan]
          rw [Array.getElem?_setIfInBounds_ne h.ne.symm]
        rw [e, Below.heap_setCell _ _ _ _ h.gt.1.symm, Below.heap_setCell _ _ _ _ h.gt.1.symm]
        exact h.ch
      rm := heap_setChan _ cr _ _ _ _ _ _ hlr
      ne := h.ne
      dlt := fun i hi => Nat.lt_of_lt_of_le (h.dlt i hi) hk.size
      dg := h.dg
      dc := h.dc
      dr := h.dr
      sz := h.sz.keeps hk h.data
      nc := h.nc
      fi := RdF.nil
      nfc := Nat.le_refl _
      cfm := by unfold maxLen; omega
      tx := h.tx.keeps hk h.data
      rsz := by
        have := h.rsz
        simp [absL, hf] at this
        simp [absL, this] }
end

theorem keeps_base {w w' : World} {B : Nat} (h : Below B w w') : Keeps (fun k => B ≤ k) w w' := ⟨h.os, h.tape, h.output, h.size, fun k hk hn => h.block k (by omega)⟩
theorem Keeps.andBelow {G : Nat → Prop} {w w1 w2 : World} (h : Keeps G w w1) (hb : Below w.heap.size w1 w2) : Keeps G w w2 := ⟨hb.os.trans h.os, hb.tape.trans h.tape, hb.output.trans h.output, Nat.le_trans h.size hb.size, fun k hk hn => (hb.block k hk).trans (h.block k hk hn)⟩
theorem PL.of {w : World} {g ct cr : Nat} {D : Nat → Prop} {ns : List Int} {at_ : Nat} {L : List (List UInt8)} {f : List UInt8} {T : List (List UInt8)} {left : Int} {A : Option Addr} {n c : Nat} {Af : Option Addr} {nf cf : Nat} {buf rb : Array Value} {s r s2 r2 : Nat} (e : L = absL f T) (hl : left = (total L : Nat)) (h : PRaw w g ct cr D ns at_ f T left A n c Af nf cf buf rb s r s2 r2) : PL w g ct cr D ns at_ L := ⟨f, T, A, n, c, Af, nf, cf, buf, rb, s, r, s2, r2, e, hl ▸ h⟩
/-- A slice's length. -/
def slen : Value → Nat
  | .slice _ n _ => n
  | _ => 0

/-- What Next leaves where bytes are left. -/
def NextPost (g ct cr : Nat) (D : Nat → Prop) (ns : List Int) (at_ : Nat) (L : List (List UInt8)) (k : Nat) (w : World) (e : Ending) (w' : World) : Prop :=
  ∃ A' n' c' out, Hid (out = L.flatten.take k) ∧ e = .returned (.tuple #[.slice A' n' c', .bool true]) ∧ OwB w' w.heap.size A' n' c' out ∧ PL w' g ct cr D ns at_ (eat k L) ∧ Keeps (Tri g ct cr) w w'

/-- The loop's relation. -/
def NxRel (w0 : World) (g ct cr : Nat) (D : Nat → Prop) (ns : List Int) (at_ : Nat) (L : List (List UInt8)) (k : Nat) (left : Int) (v : Value) (wr : World) : Prop :=
  ∃ A' n' c' out f T A n c Af nf cf buf rb s r s2 r2, v = .slice A' n' c' ∧ n' ≤ k ∧ OwB wr w0.heap.size A' n' c' out ∧ Hid (out = L.flatten.take n') ∧ Hid (absL f T = eat n' L) ∧ PRaw wr g ct cr D ns at_ f T left A n c Af nf cf buf rb s r s2 r2 ∧ Keeps (Tri g ct cr) w0 wr

set_option maxHeartbeats 2000000 in
theorem next_none (g ct cr : Nat) (D : Nat → Prop) (ns : List Int) (at_ : Nat) (w : World) (h : PL w g ct cr D ns at_ []) :
    Calls Try.prog 12 #[.pointer (some ⟨g, 0, none⟩)] w fun e w' => e = .returned (.tuple #[.slice none 0 0, .bool false]) ∧ w = w' := by
  obtain ⟨f, T, A, n, c, Af, nf, cf, buf, rb, s, r, s2, r2, e, h⟩ := h
  have k5 : w.cell? ⟨g, 5, none⟩ = some (.int .i64 0) := h.blk.cell 5 _ rfl
  clear h e
  go_enter Try.func12, Try.ntmps12
  go_wp2
  go_ret2
  exact ⟨rfl, rfl⟩

set_option maxRecDepth 100000 in
set_option maxHeartbeats 4000000 in
theorem next_any (g ct cr : Nat) (D : Nat → Prop) (ns : List Int) (at_ : Nat) (L : List (List UInt8)) (m : Int) (w : World) (h : PL w g ct cr D ns at_ L) (hL : GoodL L) (h0 : 0 < total L) (hat : ns[at_]? = some m) (hm : 0 ≤ m) (hm2 : m ≤ 9223372036854775807) (hlen : ns.length ≤ 1048576) :
    Calls Try.prog 12 #[.pointer (some ⟨g, 0, none⟩)] w (NextPost g ct cr D ns ((at_ + 1) % ns.length) L (min m.toNat (total L)) w) := by
  have hdlt := h.lt
  obtain ⟨f, T, A, n, c, Af, nf, cf, buf, rb, s, r, s2, r2, e, h⟩ := h
  have hnl : ns.length = n := by have := h.sz.1.1; rw [iv_length] at this; omega
  have hatl : at_ < ns.length := (List.getElem?_eq_some_iff.1 hat).1
  obtain ⟨b, off, u, rfl, hbl, hu, kz⟩ := Reads.at_ h.sz.1 (k := at_) (by omega)
  obtain rfl : u = .int .i64 m := by rw [iv_at, hat] at hu; simpa using hu.symm
  have hbg : b ≠ g := by
    obtain ⟨ad, e, hd⟩ := h.sz.2 (by omega)
    injection e with e
    subst e
    rintro rfl
    exact h.dg hd
  have HP := Lib.hid h
  have HE := Lib.hid e
  have HL := Lib.hid hL
  have HD := Lib.hid hdlt
  have k0 := h.blk.cell 0 _ rfl
  have k1 := h.blk.cell 1 _ rfl
  have k5 := h.blk.cell 5 _ rfl
  have f1 := h.blk.free 1
  have htot := hL.total_le
  have j1 : ((total L : Int) == 0) = false := by simp; omega
  have j2 : (0 : Int) ≤ at_ := by omega
  have j3 : (at_ : Int) < n := by omega
  have j4 : ((n : Int) == 0) = false := by simp; omega
  obtain ⟨k, hk⟩ : ∃ k, k = min m.toNat (total L) := ⟨_, rfl⟩
  rw [← hk]
  have hmin : (if (total L : Int) < m then (total L : Int) else m) = k := by rw [hk]; split <;> omega
  rw [hnl]
  have hmod : Int.tmod ((at_ : Int) + 1) n = ((at_ + 1) % n : Nat) := by
    rw [Int.tmod_eq_emod_of_nonneg (by omega), Int.natCast_emod, Int.natCast_add]
    rfl
  have HK := Lib.hid hk
  have HN := Lib.hid hnl
  clear h e hL hdlt hu hat hk hnl
  go_enter Try.func12, Try.ntmps12
  go_upto_region 3 with fail
  go_region
  go_upto_region 4 with fail
  go_region
  have hme : ((at_ : Int) + 1) % n = ((at_ + 1) % n : Nat) := by rw [Int.natCast_emod, Int.natCast_add]; rfl
  have hP1 := HP.out.setAt ((at_ + 1) % n)
  have hK1 : Keeps (Tri g ct cr) w (w.setCell ⟨g, 1, none⟩ (.int .i64 ((at_ + 1) % n : Nat))) := keeps_setCell (G := Tri g ct cr) w _ (.inl rfl)
  rw [← hme] at hP1 hK1
  have hP2 := hP1.keeps (Keeps.drew (Keeps.drew (Keeps.refl NoG _))) (fun _ _ h => h) (fun _ _ h => h)
  have hK2 := hK1.drew.drew
  clear hP1 hK1 k0 k1 k5 f1 kz j1 j4 hmod
  generalize (w.setCell ⟨g, 1, none⟩ (.int .i64 (((at_ : Int) + 1) % n))).drew.drew = w1 at hP2 hK2
  have HP2 := Lib.hid hP2
  have HK2 := Lib.hid hK2
  have hw01 := hK2.size
  clear hP2 hK2 hme
  go_wp2
  go_loopw [5] (fun v wr => NxRel w g ct cr D ns ((at_ + 1) % n) L k (total L) v wr) (fun v _ => k - slen v)
  case atStart => exact ⟨none, 0, 0, [], f, T, _, _, _, _, _, _, _, _, _, _, _, _, rfl, by omega, OwB.nil _ _, Lib.hid (by simp), Lib.hid (by rw [eat_zero]; exact HE.out.symm), HP2.out, HK2.out⟩
  case round =>
    obtain ⟨A', n', c', out, f', T', A1, n1, c1, Af', nf', cf', buf', rb', s', r', s2', r2', rfl, hn', hown, HO', HA', hP', hKr⟩ := hrel
    have HP' := Lib.hid hP'
    clear hP'
    by_cases hlt : n' < k
    · have hlt' : (n' : Int) < k := by omega
      have p4 := HP'.out.blk.cell 4 _ rfl
      by_cases hf0 : f' = []
      · subst hf0
        have hnf0 : nf' = 0 := by have := HP'.out.fi.1.1; rw [bv_length] at this; simp at this; omega
        subst hnf0
        have hT0 : T' = eat n' L := by have := HA'.out; simpa [absL] using this
        have htot2 : 0 < total T' := by rw [hT0, eat_total]; have := HK.out; omega
        obtain ⟨t, T2, rfl⟩ : ∃ t T2, T' = t :: T2 := by
          cases T' with
          | nil => simp [total] at htot2
          | cons t T2 => exact ⟨t, T2, rfl⟩
        have ht0 : t ≠ [] := by
          have h1 := (eat_good n' L HL.out).1
          rw [← hT0] at h1
          exact (h1.2 t (by simp)).1
        have HT0 := Lib.hid hT0
        have HOW0 := Lib.hid hown
        have HKr0 := Lib.hid hKr
        have HTT := Lib.hid htot2
        clear hT0 hown hKr htot2
        go_wp2_with fail
        refine (more_any _ g ct cr D ns _ t T2 _ _ _ _ _ _ _ _ _ _ _ _ _ HP'.out ht0).mono ?_
        rintro e wr' ⟨rfl, hKm, A1', n1', c1', Af', nf', cf', buf', rb', s', r', s2', r2', hPm⟩
        have HA2 : Hid (absL t T2 = eat n' L) := Lib.hid (by rw [← HT0.out]; simp [absL, ht0])
        have hTlow0 : ∀ i, w.heap.size ≤ i → ¬ Tri g ct cr i := fun i hi ht => by have := HD.out.1 i ht; omega
        have hown : OwB wr' w.heap.size A' n' c' out := HOW0.out.keeps hKm hTlow0
        have hKr : Keeps (Tri g ct cr) w wr' := HKr0.out.trans hKm
        clear HP' HA' hTlow0 hKm p4
        have HP' := Lib.hid hPm
        have HA' := HA2
        have p4 := HP'.out.blk.cell 4 _ rfl
        have HF0 := Lib.hid ht0
        clear hPm HA2 ht0
        obtain ⟨f', hf'⟩ : ∃ f', f' = t := ⟨_, rfl⟩
        obtain ⟨T', hT'⟩ : ∃ T', T' = T2 := ⟨_, rfl⟩
        rw [← hf', ← hT'] at HP' HA'
        rw [← hf'] at HF0
        clear hf' hT' HT0 HTT
        go_upto_region 7 with fail
        have hnf : f'.length = nf' := by have := HP'.out.fi.1.1; rw [bv_length] at this; omega
        have hnf0 : 0 < nf' := by rw [← hnf]; exact List.length_pos_iff.2 HF0.out
        obtain ⟨kk, hkk⟩ : ∃ kk, kk = min (k - n') nf' := ⟨_, rfl⟩
        have hkk1 : kk ≤ nf' := by omega
        have hkk0 : 0 < kk := by omega
        have hkk2 : n' + kk ≤ k := by omega
        have hmin2 : (if (nf' : Int) < (k : Int) - n' then (nf' : Int) else (k : Int) - n') = kk := by rw [hkk]; split <;> omega
        have q4 := HP'.out.blk.cell 4 _ rfl
        have hncf := HP'.out.nfc
        have hcfm := HP'.out.cfm
        have hfl : f'.length ≤ 1000 := by
          have h1 := (eat_good n' L HL.out).1
          rw [← HA'.out] at h1
          exact h1.absL.2.1
        have Hsrc := Lib.hid ((RdB.first (l := f') HP'.out.fi.1 hkk1).src (P := Try.prog) (c := cf') 22 5 Try.underlying22)
        generalize hq : f'.take kk = q at Hsrc
        have HQ := Lib.hid hq
        obtain ⟨A2, hA2'⟩ : ∃ A2, (if cf' = kk then Af' else Af'.map (fun x => x.add kk)) = A2 := ⟨_, rfl⟩
        have HNF := Lib.hid hnf
        have HKK := Lib.hid hkk
        have HOW := Lib.hid hown
        have hsz0 := hKr.size
        have HKr := Lib.hid hKr
        clear hq hnf hkk hown hKr
        go_upto_region 8 with fail
        unfold maxLen at hcfm
        have c1 : (0 : Int) ≤ kk := by omega
        have c2 : (kk : Int) ≤ cf' := by omega
        have c3 : kk ≤ cf' := by omega
        have c4 : (kk : Int) ≤ nf' := by omega
        go_upto_region 9 with (at_builtin; go_must (refine wpList_appendB bytesElem rfl (.tmp 67) (.tmp 73) 22 rfl w.heap.size A' n' c' out rfl HOW.out _ rfl kk q Hsrc.out (by omega) hsz0 ?_); intro A3 n3 c3' l3 w3 hl3 hn3 hown3 hb3 hg3; simp only [Act.put, List.setIfInBounds_toArray, List.set_cons_succ, List.set_cons_zero])
        have hP3 := HP'.out.keeps (keeps_base hb3) (fun k hk h => by have := HD.out.1 k hk; omega) (fun k hk h => by have := HD.out.2 k hk; omega)
        have hK3 : Keeps (Tri g ct cr) w w3 := HKr.out.andBelow hb3
        have r4 := hP3.blk.cell 4 _ rfl
        have g4 := hP3.blk.free 4
        have HP3 := Lib.hid hP3
        have HK3 := Lib.hid hK3
        have HOW3 := Lib.hid hown3
        have HB3 := Lib.hid hb3
        clear hP3 hK3 hown3 hb3 hg3 p4 q4
        have houtq : Hid (l3 = L.flatten.take n3) := Lib.hid (by
          rw [hl3.out, hn3.out, List.take_add, ← eat_flat, ← HA'.out, flat_absL, List.take_append_of_le_length (by rw [HNF.out]; exact hkk1), HQ.out, HO'.out])
        have heat : Hid (absL (f'.drop kk) T' = eat n3 L) := Lib.hid (by
          rw [hn3.out, eat_add _ _ _ (fun l hl => (HL.out.2 l hl).1), ← HA'.out, show absL f' T' = f' :: T' by simp [absL, HF0.out], eat_part kk f' T' HF0.out (by rw [HNF.out]; exact hkk1)])
        have hn3k : n3 ≤ k := by rw [hn3.out]; exact hkk2
        have hTlow : ∀ i, w.heap.size ≤ i → ¬ Tri g ct cr i := fun i hi ht => by have := HD.out.1 i ht; omega
        go_upto_region 10 with fail
        by_cases hend : kk = nf'
        · have hz1 : (((nf' - kk : Nat) : Int) == 0) = true := by simp; omega
          have hdrop : f'.drop kk = [] := List.drop_of_length_le (by rw [HNF.out]; omega)
          have hPg := HP3.out.gone HF0.out (.slice A2 (nf' - kk) (cf' - kk))
          have hKg : Keeps (Tri g ct cr) w3 (((w3.setCell ⟨g, 4, none⟩ (.slice A2 (nf' - kk) (cf' - kk))).setCell ⟨g, 4, none⟩ (.slice none 0 0)).setChan cr 64 (rb'.extract 1 rb'.size) false s2' (r2' + 1) false) :=
            ((keeps_setCell (G := Tri g ct cr) w3 _ (.inl rfl)).setCell (.inl (.inl rfl)) _).setChan (.inl (.inr (.inr rfl))) _ _ _ _ _ _
          have hB5 := (HP3.out.blk.set 4 (.slice A2 (nf' - kk) (cf' - kk))).set 4 (.slice none 0 0)
          have u3 := hB5.cell 3 _ rfl
          have hB4 := (HP3.out.blk.set 4 (.slice A2 (nf' - kk) (cf' - kk)))
          have u4 := hB4.cell 4 _ rfl
          have v4 := hB4.free 4
          have hrm5 : ((w3.setCell ⟨g, 4, none⟩ (.slice A2 (nf' - kk) (cf' - kk))).setCell ⟨g, 4, none⟩ (.slice none 0 0)).heap[cr]? = some (.chan 64 rb' false s2' r2' false) := by
            rw [Below.heap_setCell _ _ _ _ HP3.out.gt.2.symm, Below.heap_setCell _ _ _ _ HP3.out.gt.2.symm]
            exact HP3.out.rm
          have hrpos : 0 < rb'.size := by rw [HP3.out.rsz]; simp [absL, HF0.out]
          rw [hdrop] at heat
          have HPG := Lib.hid hPg
          have HKG := Lib.hid hKg
          have HR5 := Lib.hid hrm5
          clear hPg hKg hB5 hB4 hrm5 hend hdrop hA2'
          go_upto_region 12 with fail
          refine wp_region_commN 4 rfl ?_
          simp only [List.take]
          go_wp2_with fail
          refine ⟨_, _, comm_recv (c := cr) (d := 97) rfl rfl rfl rfl rfl ⟨.agg #[], by simp [go_sem, rcase]⟩ HR5.out hrpos, ?_⟩
          simp only [List.drop, Act.put, List.setIfInBounds_toArray, List.set_cons_succ, List.set_cons_zero]
          go_wp2
          go_roundw
          case rel => exact ⟨A3, n3, c3', l3, [], T', _, _, _, _, _, _, _, _, _, _, _, _, rfl, hn3k, HOW3.out.keeps HKG.out hTlow, houtq, heat, HPG.out, HK3.out.trans HKG.out⟩
          case measure => simp only [slen]; rw [hn3.out]; omega
        · have hkl : kk < nf' := by omega
          have hz : ((nf' - kk : Nat) : Int) ≠ 0 := by omega
          have hz1 : (((nf' - kk : Nat) : Int) == 0) = false := by simpa using hz
          have hcut := RdF.cut (l := f') HP3.out.fi hkk1 hncf
          rw [hA2'] at hcut
          have hPg := HP3.out.setFirst (A' := A2) (n' := nf' - kk) (c' := cf' - kk) (l := f'.drop kk) hcut (by omega) (by unfold maxLen; omega) (by
            have hd : f'.drop kk ≠ [] := by intro h; have := congrArg List.length h; rw [List.length_drop, HNF.out] at this; simp at this; omega
            simp [absL, hd, HF0.out])
          have hKg : Keeps (Tri g ct cr) w3 (w3.setCell ⟨g, 4, none⟩ (.slice A2 (nf' - kk) (cf' - kk))) := keeps_setCell (G := Tri g ct cr) w3 _ (.inl rfl)
          have hB4 := (HP3.out.blk.set 4 (.slice A2 (nf' - kk) (cf' - kk)))
          have u4 := hB4.cell 4 _ rfl
          have HPG := Lib.hid hPg
          have HKG := Lib.hid hKg
          clear hPg hKg hB4 hcut hA2' hkl hend hz
          go_wp2
          go_roundw
          case rel => exact ⟨A3, n3, c3', l3, f'.drop kk, T', _, _, _, _, _, _, _, _, _, _, _, _, rfl, hn3k, HOW3.out.keeps HKG.out hTlow, houtq, heat, HPG.out, HK3.out.trans HKG.out⟩
          case measure => simp only [slen]; rw [hn3.out]; omega
      · have HF0 := Lib.hid hf0
        have hnfp : 0 < nf' := by have := HP'.out.fi.1.1; rw [bv_length] at this; have := List.length_pos_iff.2 hf0; omega
        have hnfi : (0 : Int) < nf' := by omega
        clear hf0
        have hnf : f'.length = nf' := by have := HP'.out.fi.1.1; rw [bv_length] at this; omega
        have hnf0 : 0 < nf' := by rw [← hnf]; exact List.length_pos_iff.2 HF0.out
        obtain ⟨kk, hkk⟩ : ∃ kk, kk = min (k - n') nf' := ⟨_, rfl⟩
        have hkk1 : kk ≤ nf' := by omega
        have hkk0 : 0 < kk := by omega
        have hkk2 : n' + kk ≤ k := by omega
        have hmin2 : (if (nf' : Int) < (k : Int) - n' then (nf' : Int) else (k : Int) - n') = kk := by rw [hkk]; split <;> omega
        have q4 := HP'.out.blk.cell 4 _ rfl
        have hncf := HP'.out.nfc
        have hcfm := HP'.out.cfm
        have hfl : f'.length ≤ 1000 := by
          have h1 := (eat_good n' L HL.out).1
          rw [← HA'.out] at h1
          exact h1.absL.2.1
        have Hsrc := Lib.hid ((RdB.first (l := f') HP'.out.fi.1 hkk1).src (P := Try.prog) (c := cf') 22 5 Try.underlying22)
        generalize hq : f'.take kk = q at Hsrc
        have HQ := Lib.hid hq
        obtain ⟨A2, hA2'⟩ : ∃ A2, (if cf' = kk then Af' else Af'.map (fun x => x.add kk)) = A2 := ⟨_, rfl⟩
        have HNF := Lib.hid hnf
        have HKK := Lib.hid hkk
        have HOW := Lib.hid hown
        have hsz0 := hKr.size
        have HKr := Lib.hid hKr
        clear hq hnf hkk hown hKr
        go_upto_region 8 with fail
        unfold maxLen at hcfm
        have c1 : (0 : Int) ≤ kk := by omega
        have c2 : (kk : Int) ≤ cf' := by omega
        have c3 : kk ≤ cf' := by omega
        have c4 : (kk : Int) ≤ nf' := by omega
        go_upto_region 9 with (at_builtin; go_must (refine wpList_appendB bytesElem rfl (.tmp 67) (.tmp 73) 22 rfl w.heap.size A' n' c' out rfl HOW.out _ rfl kk q Hsrc.out (by omega) hsz0 ?_); intro A3 n3 c3' l3 w3 hl3 hn3 hown3 hb3 hg3; simp only [Act.put, List.setIfInBounds_toArray, List.set_cons_succ, List.set_cons_zero])
        have hP3 := HP'.out.keeps (keeps_base hb3) (fun k hk h => by have := HD.out.1 k hk; omega) (fun k hk h => by have := HD.out.2 k hk; omega)
        have hK3 : Keeps (Tri g ct cr) w w3 := HKr.out.andBelow hb3
        have r4 := hP3.blk.cell 4 _ rfl
        have g4 := hP3.blk.free 4
        have HP3 := Lib.hid hP3
        have HK3 := Lib.hid hK3
        have HOW3 := Lib.hid hown3
        have HB3 := Lib.hid hb3
        clear hP3 hK3 hown3 hb3 hg3 p4 q4
        have houtq : Hid (l3 = L.flatten.take n3) := Lib.hid (by
          rw [hl3.out, hn3.out, List.take_add, ← eat_flat, ← HA'.out, flat_absL, List.take_append_of_le_length (by rw [HNF.out]; exact hkk1), HQ.out, HO'.out])
        have heat : Hid (absL (f'.drop kk) T' = eat n3 L) := Lib.hid (by
          rw [hn3.out, eat_add _ _ _ (fun l hl => (HL.out.2 l hl).1), ← HA'.out, show absL f' T' = f' :: T' by simp [absL, HF0.out], eat_part kk f' T' HF0.out (by rw [HNF.out]; exact hkk1)])
        have hn3k : n3 ≤ k := by rw [hn3.out]; exact hkk2
        have hTlow : ∀ i, w.heap.size ≤ i → ¬ Tri g ct cr i := fun i hi ht => by have := HD.out.1 i ht; omega
        go_upto_region 10 with fail
        by_cases hend : kk = nf'
        · have hz1 : (((nf' - kk : Nat) : Int) == 0) = true := by simp; omega
          have hdrop : f'.drop kk = [] := List.drop_of_length_le (by rw [HNF.out]; omega)
          have hPg := HP3.out.gone HF0.out (.slice A2 (nf' - kk) (cf' - kk))
          have hKg : Keeps (Tri g ct cr) w3 (((w3.setCell ⟨g, 4, none⟩ (.slice A2 (nf' - kk) (cf' - kk))).setCell ⟨g, 4, none⟩ (.slice none 0 0)).setChan cr 64 (rb'.extract 1 rb'.size) false s2' (r2' + 1) false) :=
            ((keeps_setCell (G := Tri g ct cr) w3 _ (.inl rfl)).setCell (.inl (.inl rfl)) _).setChan (.inl (.inr (.inr rfl))) _ _ _ _ _ _
          have hB5 := (HP3.out.blk.set 4 (.slice A2 (nf' - kk) (cf' - kk))).set 4 (.slice none 0 0)
          have u3 := hB5.cell 3 _ rfl
          have hB4 := (HP3.out.blk.set 4 (.slice A2 (nf' - kk) (cf' - kk)))
          have u4 := hB4.cell 4 _ rfl
          have v4 := hB4.free 4
          have hrm5 : ((w3.setCell ⟨g, 4, none⟩ (.slice A2 (nf' - kk) (cf' - kk))).setCell ⟨g, 4, none⟩ (.slice none 0 0)).heap[cr]? = some (.chan 64 rb' false s2' r2' false) := by
            rw [Below.heap_setCell _ _ _ _ HP3.out.gt.2.symm, Below.heap_setCell _ _ _ _ HP3.out.gt.2.symm]
            exact HP3.out.rm
          have hrpos : 0 < rb'.size := by rw [HP3.out.rsz]; simp [absL, HF0.out]
          rw [hdrop] at heat
          have HPG := Lib.hid hPg
          have HKG := Lib.hid hKg
          have HR5 := Lib.hid hrm5
          clear hPg hKg hB5 hB4 hrm5 hend hdrop hA2'
          go_upto_region 12 with fail
          refine wp_region_commN 4 rfl ?_
          simp only [List.take]
          go_wp2_with fail
          refine ⟨_, _, comm_recv (c := cr) (d := 97) rfl rfl rfl rfl rfl ⟨.agg #[], by simp [go_sem, rcase]⟩ HR5.out hrpos, ?_⟩
          simp only [List.drop, Act.put, List.setIfInBounds_toArray, List.set_cons_succ, List.set_cons_zero]
          go_wp2
          go_roundw
          case rel => exact ⟨A3, n3, c3', l3, [], T', _, _, _, _, _, _, _, _, _, _, _, _, rfl, hn3k, HOW3.out.keeps HKG.out hTlow, houtq, heat, HPG.out, HK3.out.trans HKG.out⟩
          case measure => simp only [slen]; rw [hn3.out]; omega
        · have hkl : kk < nf' := by omega
          have hz : ((nf' - kk : Nat) : Int) ≠ 0 := by omega
          have hz1 : (((nf' - kk : Nat) : Int) == 0) = false := by simpa using hz
          have hcut := RdF.cut (l := f') HP3.out.fi hkk1 hncf
          rw [hA2'] at hcut
          have hPg := HP3.out.setFirst (A' := A2) (n' := nf' - kk) (c' := cf' - kk) (l := f'.drop kk) hcut (by omega) (by unfold maxLen; omega) (by
            have hd : f'.drop kk ≠ [] := by intro h; have := congrArg List.length h; rw [List.length_drop, HNF.out] at this; simp at this; omega
            simp [absL, hd, HF0.out])
          have hKg : Keeps (Tri g ct cr) w3 (w3.setCell ⟨g, 4, none⟩ (.slice A2 (nf' - kk) (cf' - kk))) := keeps_setCell (G := Tri g ct cr) w3 _ (.inl rfl)
          have hB4 := (HP3.out.blk.set 4 (.slice A2 (nf' - kk) (cf' - kk)))
          have u4 := hB4.cell 4 _ rfl
          have HPG := Lib.hid hPg
          have HKG := Lib.hid hKg
          clear hPg hKg hB4 hcut hA2' hkl hend hz
          go_wp2
          go_roundw
          case rel => exact ⟨A3, n3, c3', l3, f'.drop kk, T', _, _, _, _, _, _, _, _, _, _, _, _, rfl, hn3k, HOW3.out.keeps HKG.out hTlow, houtq, heat, HPG.out, HK3.out.trans HKG.out⟩
          case measure => simp only [slen]; rw [hn3.out]; omega
    · obtain rfl : n' = k := by omega
      have hni : ¬ (n' : Int) < n' := by omega
      have hB := HP'.out.blk
      have k5 := hB.cell 5 _ rfl
      have f5 := hB.free 5
      have hkt : n' ≤ total L := by rw [HK.out]; omega
      have hPe := HP'.out.setLeft ((total L : Int) - n')
      have hKe : Keeps (Tri g ct cr) wr (wr.setCell ⟨g, 5, none⟩ (.int .i64 ((total L : Int) - n'))) := keeps_setCell (G := Tri g ct cr) wr _ (.inl rfl)
      have hTlow : ∀ i, w.heap.size ≤ i → ¬ Tri g ct cr i := fun i hi ht => by have := HD.out.1 i ht; omega
      have hoe := hown.keeps hKe hTlow
      have hle : (total L : Int) - n' = (total (eat n' L) : Nat) := by rw [eat_total]; omega
      have HPE := Lib.hid hPe
      have HKE := Lib.hid (hKr.trans hKe)
      have HOE := Lib.hid hoe
      have HLE := Lib.hid hle
      clear hB hPe hKe hoe hle hown hKr hTlow
      go_wp2
      go_ret2
      exact ⟨A', n', c', out, HO', rfl, HOE.out, PL.of HA'.out.symm HLE.out HPE.out, HKE.out⟩
end Go.Proofs.Ytojbehblgmpbgaa
