/-
  Layer 5: the references: New, Send, Left.
-/
import Derived.Test.YtojbehblgmpbgaaLawPSame
namespace Go.Proofs.Ytojbehblgmpbgaa
open Go.RowKit Go.Conc
set_option linter.unusedVariables false
set_option linter.unusedSimpArgs false

theorem strsElem : Elem Try.prog 39 9 (.string ByteArray.empty) 1 16 := elem_of Try.underlying39 (by kernel_rfl) rfl (by omega)
theorem st_extract (l : List UInt8) (i j : Nat) : (st l).extract i j = st ((l.drop i).take (j - i)) := by
  apply ByteArray.ext
  simp [st, List.extract_eq_take_drop]
theorem st_ne {b : List UInt8} (h : b ≠ []) : ¬ st b = ByteArray.mk #[] := fun e => h (by
  have := congrArg (fun x : ByteArray => x.data.toList) e
  simpa [st] using this)

theorem rNew_any (A : Option Addr) (n c : Nat) (w : World) (hn : 1 ≤ n) :
    Calls Try.prog 17 #[.slice A n c] w fun e w' => e = .returned (.agg #[.slice none 0 0, .slice A n c, .int .i64 0]) ∧ Below w.heap.size w w' := by
  have h0 : ((n : Int) == 0) = false := by simp; omega
  go_enter Try.func17, Try.ntmps17
  go_wp2
  exact bodyPost_ret (v := .agg #[.slice none 0 0, .slice A n c, .int .i64 0]) (by simp [results, Try.results17, go_sem]) rfl ⟨rfl, by first | exact ((Below.refl _ _).alloc (Nat.le_refl _) _) | exact below_setRow ((Below.refl _ _).alloc (Nat.le_refl _) _) (Nat.le_refl _) _⟩

/-- What the reference's Send leaves. -/
def RSend (AS : Option Addr) (nS cS : Nat) (at_ : Int) (L : List (List UInt8)) (b : List UInt8) (w : World) (e : Ending) (w' : World) : Prop :=
  ∃ A' n' c' L' code, e = .returned (.tuple #[.agg #[.slice A' n' c', .slice AS nS cS, .int .i64 at_], .int .i64 code]) ∧ RdV w' w'.heap.size A' n' (sv L') ∧ Below w.heap.size w w' ∧ (b ≠ [] → L.length < 64 → ∀ ad, A' = some ad → 0 < n' → w.heap.size ≤ ad.block) ∧
    Hid ((b = [] ∧ L' = L ∧ code = 0) ∨ (b ≠ [] ∧ 64 ≤ L.length ∧ L' = L ∧ code = 5) ∨ (b ≠ [] ∧ L.length < 64 ∧ L' = L ++ [b] ∧ code = 0))

set_option maxHeartbeats 2000000 in
theorem rSend_any (AL : Option Addr) (nL cL : Nat) (AS : Option Addr) (nS cS : Nat) (at_ : Int) (L : List (List UInt8)) (b : List UInt8) (w : World) (h : RdV w w.heap.size AL nL (sv L)) (hn : nL ≤ 64) :
    Calls Try.prog 19 #[.agg #[.slice AL nL cL, .slice AS nS cS, .int .i64 at_], .string (st b)] w (RSend AS nS cS at_ L b w) := by
  have hlen : L.length = nL := by rw [← sv_length]; exact h.len
  have hB := Blk.new w 41 [.slice AL nL cL, .slice AS nS cS, .int .i64 at_]
  have hB2 := Blk.new (w.alloc (.cells #[.slice AL nL cL, .slice AS nS cS, .int .i64 at_] 41)) 41 [.slice none 0 0, .slice none 0 0, .int .i64 0]
  have hb1 : Below w.heap.size w (w.alloc (.cells #[.slice AL nL cL, .slice AS nS cS, .int .i64 at_] 41)) := (Below.refl _ _).alloc (Nat.le_refl _) _
  have HLn := Lib.hid hlen
  have H := Lib.hid h
  clear h hlen
  by_cases hb0 : b = []
  · subst hb0
    have e0 : st [] = ByteArray.mk #[] := rfl
    go_enter Try.func19, Try.ntmps19
    go_wp2
    have hb2 : Below w.heap.size w ((w.alloc (.cells #[.slice AL nL cL, .slice AS nS cS, .int .i64 at_] 41)).alloc (.cells #[.slice AL nL cL, .slice AS nS cS, .int .i64 at_] 41)) := hb1.alloc (by simp) _
    exact bodyPost_ret (v := .tuple #[.agg #[.slice AL nL cL, .slice AS nS cS, .int .i64 at_], .int .i64 0]) (by simp [results, Try.results19, go_sem]) rfl ⟨AL, nL, cL, L, 0, rfl, H.out.up hb2, hb2, (fun h => absurd rfl h), Lib.hid (.inl ⟨rfl, rfl, rfl⟩)⟩
  · have e1 : b.isEmpty = false := by simpa using hb0
    by_cases hfull : 64 ≤ nL
    · have hf1 : (64 : Int) ≤ nL := by omega
      go_enter Try.func19, Try.ntmps19
      go_wp2
      have hb2 : Below w.heap.size w ((w.alloc (.cells #[.slice AL nL cL, .slice AS nS cS, .int .i64 at_] 41)).alloc (.cells #[.slice AL nL cL, .slice AS nS cS, .int .i64 at_] 41)) := hb1.alloc (by simp) _
      exact bodyPost_ret (v := .tuple #[.agg #[.slice AL nL cL, .slice AS nS cS, .int .i64 at_], .int .i64 5]) (by simp [results, Try.results19, go_sem]) rfl ⟨AL, nL, cL, L, 5, rfl, H.out.up hb2, hb2, (fun _ h => by have := HLn.out; omega), Lib.hid (.inr (.inl ⟨hb0, by rw [HLn.out]; exact hfull, rfl, rfl⟩))⟩
    · have hf1 : ¬ (64 : Int) ≤ nL := by omega
      obtain ⟨w1, hw1⟩ : ∃ x, x = ((w.alloc (.cells #[.slice AL nL cL, .slice AS nS cS, .int .i64 at_] 41)).alloc (.cells #[.slice none 0 0, .slice none 0 0, .int .i64 0] 41)) := ⟨_, rfl⟩
      have hs1 : w1.heap.size = w.heap.size + 2 := by rw [hw1]; simp
      have hP1 : Blk w1 w.heap.size 41 [.slice AL nL cL, .slice AS nS cS, .int .i64 at_] := by rw [hw1]; exact hB.alloc _
      have hZ1 : Blk w1 (w.heap.size + 1) 41 [.slice none 0 0, .slice none 0 0, .int .i64 0] := by rw [hw1]; have := hB2; simpa using this
      have hb01 : Below w.heap.size w w1 := by rw [hw1]; exact hb1.alloc (by simp) _
      have p0 := hP1.cell 0 _ rfl
      have Hsrc := Lib.hid ((H.out.up hb01).src (P := Try.prog) (c := cL) 39 9 Try.underlying39 (sv_one L))
      have HP1 := Lib.hid hP1
      have HZ1 := Lib.hid hZ1
      have HB01 := Lib.hid hb01
      have hd1 : decide ((64 : Int) ≤ nL) = false := by simpa using hf1
      clear hB hB2 hb1 hP1 hZ1 hb01
      go_enter Try.func19, Try.ntmps19
      go_upto_region 6 with fail
      rw [← hw1]
      clear hw1
      go_upto_region 7 with (at_builtin; go_must (refine wpList_appendV strsElem rfl (.tmp 15) (.tmp 17) 39 rfl w1.heap.size none 0 0 [] rfl (OwV.nil _ _ _) _ rfl nL (sv L) Hsrc.out (by omega) (by omega) (Nat.le_refl _) ?_); intro A2 n2 c2 l2 w2 hl2 hn2 hown2 hb2 hg2; simp only [Act.put, List.setIfInBounds_toArray, List.set_cons_succ, List.set_cons_zero])
      have hw2 := hb2.size
      have hP2 := HP1.out.below hb2 (by omega)
      have hZ2 := HZ1.out.below hb2 (by omega)
      have HOW2 := Lib.hid hown2
      have Hone := Lib.hid (Src.oneV (P := Try.prog) w2 39 9 Try.underlying39 (.string (st b)) rfl 9)
      have HP2 := Lib.hid hP2
      have HZ2 := Lib.hid hZ2
      have HB2 := Lib.hid hb2
      have hn2' : n2 = nL := by rw [hn2.out]; omega
      clear hown2 hb2 hP2 hZ2 hg2
      go_upto_region 8 with (at_builtin; go_must (refine wpList_appendV strsElem rfl (.tmp 19) (.tmp 21) 39 rfl w1.heap.size A2 n2 c2 l2 rfl (HOW2.out.alloc _) _ rfl 1 [.string (st b)] Hone.out (by omega) (by omega) (by simp; omega) ?_); intro A3 n3 c3 l3 w3 hl3 hn3 hown3 hb3 hg3; simp only [Act.put, List.setIfInBounds_toArray, List.set_cons_succ, List.set_cons_zero]; have hP3 := (HP2.out.alloc (.cells #[.string (st b)] 9)).below hb3 (by omega); have q0 := hP3.cell 0 _ rfl; have f0 := hP3.free 0)
      have hZ3 := (HZ2.out.alloc (.cells #[.string (st b)] 9)).below hb3 (by omega)
      have hP4 := hP3.set 0 (.slice A3 n3 c3)
      have hZ4 := hZ3.other (p := ⟨w.heap.size, 0, none⟩) (by simp) (.slice A3 n3 c3)
      have hb03 : Below w.heap.size w w3 := HB01.out.trans ((HB2.out.trans (((Below.refl _ _).alloc hw2 _).trans hb3)).mono (by omega))
      have hr3 : RdV w3 w3.heap.size A3 n3 (sv (L ++ [b])) := by
        have e : sv (L ++ [b]) = l3 := by rw [hl3.out, hl2.out, sv_append]; rfl
        rw [e]
        exact hown3.rd
      have hne : ∀ ad, A3 = some ad → 0 < n3 → w.heap.size + 2 ≤ ad.block := fun ad ha h0 => by
        obtain ⟨g', hg', hle, _⟩ := hown3.blk h0
        rw [ha] at hg'
        injection hg' with e
        subst e
        have h1 : w1.heap.size ≤ g' := hle
        show w.heap.size + 2 ≤ g'
        omega
      have r0 := hP4.cell 0 _ rfl
      have r1 := hP4.cell 1 _ rfl
      have r2 := hP4.cell 2 _ rfl
      obtain ⟨w4, hw4⟩ : ∃ x, x = w3.setCell ⟨w.heap.size, 0, none⟩ (.slice A3 n3 c3) := ⟨_, rfl⟩
      rw [← hw4] at hP4 hZ4 r0 r1 r2 ⊢
      have hk4 : Keeps (fun k => k = w.heap.size ∨ k = w.heap.size + 1) w3 w4 := by rw [hw4]; exact keeps_setCell (G := fun k => k = w.heap.size ∨ k = w.heap.size + 1) w3 _ (.inl rfl)
      have HK4 := Lib.hid hk4
      have HB03 := Lib.hid hb03
      have HR3 := Lib.hid hr3
      have HNE := Lib.hid hne
      clear hb3 hg3 hown3 hP3 q0 f0 hZ3 hP4 hw4 hk4 hb03 hr3 hne p0
      go_wp2_with (refine wpList_storeBlk rfl (.tmp 4) (.tmp 24) rfl rfl [.slice A3 n3 c3, .slice AS nS cS, .int .i64 at_] rfl rfl (by kernel_rfl) hZ4 rfl (by simp [Value.oneCell']) ?_)
      have hF := hZ4.setRow [.slice A3 n3 c3, .slice AS nS cS, .int .i64 at_]
      have s0 := hF.cell 0 _ rfl
      have s1 := hF.cell 1 _ rfl
      have s2 := hF.cell 2 _ rfl
      have hkF : Keeps (fun k => k = w.heap.size ∨ k = w.heap.size + 1) w3 (w4.setRow (w.heap.size + 1) #[.slice A3 n3 c3, .slice AS nS cS, .int .i64 at_]) := HK4.out.trans ((keeps_setRow w4 _).mono fun k _ e => .inr e)
      have hrF : RdV (w4.setRow (w.heap.size + 1) #[.slice A3 n3 c3, .slice AS nS cS, .int .i64 at_]) (w4.setRow (w.heap.size + 1) #[.slice A3 n3 c3, .slice AS nS cS, .int .i64 at_]).heap.size A3 n3 (sv (L ++ [b])) := by
        have h1 : RdF w3 (fun k => w.heap.size + 2 ≤ k) A3 n3 (sv (L ++ [b])) := ⟨HR3.out, fun h0 => by obtain ⟨ad, ha, _⟩ := HR3.out.2 h0; exact ⟨ad, ha, HNE.out ad ha h0⟩⟩
        exact (h1.keeps hkF (fun k hk e => by omega)).1
      exact bodyPost_ret (v := .tuple #[.agg #[.slice A3 n3 c3, .slice AS nS cS, .int .i64 at_], .int .i64 0]) (by simp [results, Try.results19, go_sem, s0, s1, s2]) rfl
        ⟨A3, n3, c3, L ++ [b], 0, rfl, hrF, ((Keeps.of_below HB03.out).trans (hkF)).under (Nat.le_refl _) (fun k hk e => by omega), (fun _ _ ad ha h0 => by have := HNE.out ad ha h0; omega), Lib.hid (.inr (.inr ⟨hb0, by rw [HLn.out]; omega, rfl, rfl⟩))⟩

def LfRel (w : World) (L : List (List UInt8)) (m i : Value) (wr : World) : Prop := ∃ j : Nat, j ≤ L.length ∧ i = .int .i64 j ∧ m = .int .i64 (total (L.take j)) ∧ wr = w
theorem total_take_succ {L : List (List UInt8)} {j : Nat} {l : List UInt8} (h : L[j]? = some l) : total (L.take (j + 1)) = total (L.take j) + l.length := by
  unfold total
  rw [List.take_add_one, h]; simp
theorem total_take_le (L : List (List UInt8)) (j : Nat) : total (L.take j) ≤ total L := by
  unfold total
  conv => rhs; rw [← List.take_append_drop j L]
  rw [List.flatten_append, List.length_append]
  omega

set_option maxHeartbeats 2000000 in
theorem rLeft_any (AL : Option Addr) (nL cL : Nat) (AS : Option Addr) (nS cS : Nat) (at_ : Int) (L : List (List UInt8)) (w : World) (h : RdV w w.heap.size AL nL (sv L)) (hL : GoodL L) :
    Calls Try.prog 21 #[.agg #[.slice AL nL cL, .slice AS nS cS, .int .i64 at_]] w fun e w' => e = .returned (.int .i64 (total L)) ∧ Below w.heap.size w w' := by
  have hlen : L.length = nL := by rw [← sv_length]; exact h.len
  have htot := hL.total_le
  have hB := Blk.new w 41 [.slice AL nL cL, .slice AS nS cS, .int .i64 at_]
  have hb1 : Below w.heap.size w (w.alloc (.cells #[.slice AL nL cL, .slice AS nS cS, .int .i64 at_] 41)) := (Below.refl _ _).alloc (Nat.le_refl _) _
  have hr := h.up hb1
  go_enter Try.func21, Try.ntmps21
  go_wp2
  generalize w.alloc (.cells #[.slice AL nL cL, .slice AS nS cS, .int .i64 at_] 41) = w1 at hB hb1 hr
  have k0 := hB.cell 0 _ rfl
  have HR := Lib.hid hr
  have HB1 := Lib.hid hb1
  have HLn := Lib.hid hlen
  have hnL : nL ≤ 64 := by rw [← hlen]; exact hL.1
  clear hB hb1 hr h hlen
  go_loopw [3, 4] (fun m i wr => LfRel w1 L m i wr) (fun _ i _ => nL - (intOf i).toNat)
  case atStart => exact ⟨0, by omega, rfl, rfl, rfl⟩
  case round =>
    obtain ⟨j, hj, rfl, rfl, rfl⟩ := hrel
    by_cases hlt : j < nL
    · have j0 : (0 : Int) ≤ j := by omega
      have j1 : (j : Int) < nL := by omega
      obtain ⟨b, off, u, hA, hbl, hu, hc⟩ := HR.out.at_ hlt
      subst hA
      have hjl : j < L.length := by rw [HLn.out]; exact hlt
      obtain rfl : u = .string (st L[j]) := by rw [sv_at, List.getElem?_eq_getElem hjl] at hu; simpa using hu.symm
      have hs := st_size L[j]
      have ht := total_take_succ (List.getElem?_eq_getElem hjl)
      have htl := total_take_le L (j + 1)
      have HT := Lib.hid ht
      generalize hx : total (L.take j) = x at HT
      have htx : x + L[j].length ≤ 64000 := by rw [← HT.out]; omega
      generalize L[j] = lj at hc hs HT htx
      clear hu ht htl hx
      go_wp2
      go_roundw
      case rel => exact ⟨j + 1, by have := HLn.out; omega, by go_num, by rw [HT.out]; go_num, rfl⟩
      case measure => simp [intOf]; omega
    · obtain rfl : j = nL := by have := HLn.out; omega
      have hte : total (L.take j) = total L := by rw [List.take_of_length_le (by rw [HLn.out]; omega)]
      rw [hte]
      clear hte
      go_wp2
      go_ret
      exact ⟨rfl, HB1.out⟩
end Go.Proofs.Ytojbehblgmpbgaa
