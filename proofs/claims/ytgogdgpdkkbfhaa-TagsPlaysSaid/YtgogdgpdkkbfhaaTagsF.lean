/-
  Layer 22: Has, Live, Pick of none, make of elements of one cell.
-/
import Derived.Test.YtgogdgpdkkbfhaaTagsE
namespace Go.Proofs.Ytgogdgpdkkbfhaa
open Go.RowKit
set_option linter.unusedVariables false
set_option linter.unusedSimpArgs false

theorem has_tag (g : Nat) (rows : List (List Value)) (n most : Nat) (ts : List Int) (tag : Int) (w : World) (h : TG w g rows n most) (ht : TagsAre rows n ts) :
    Calls Try.prog 15 #[.pointer (some ⟨g, 0, none⟩), .int .i64 tag] w fun e w' => e = .returned (.bool (decide (tag ∈ ts))) ∧ Below w.heap.size w w' := by
  obtain ⟨D, hD⟩ : ∃ D, Hid (D = decide (tag ∈ ts)) := ⟨_, Lib.hid rfl⟩
  rw [← hD.out]
  have H := Lib.hid h
  have HT := Lib.hid ht
  clear h ht
  go_enter Try.func15, Try.ntmps15
  go_wp2_with fail
  refine (refuses_any g rows n most ts tag _ H.out HT.out).mono ?_
  rintro e w2 ⟨rfl, hb2⟩
  by_cases hp : tag ∈ ts
  · have hv : refI ts n most tag = .iface 25 (.int .i64 7) := by unfold refI; rw [if_pos (placeL_some hp)]
    have HDV := Lib.hid (show D = true by rw [hD.out]; simpa using hp)
    rw [hv]
    clear hv hp
    go_wp2_with fail
    refine (is_same 7 _).mono ?_
    rintro e w3 ⟨rfl, rfl⟩
    go_wp2
    go_ret
    exact ⟨by rw [HDV.out]; rfl, hb2⟩
  · have HDV := Lib.hid (show D = false by rw [hD.out]; simpa using hp)
    have hp2 : ¬ 0 ≤ placeL ts tag := by rw [placeL_none hp]; omega
    by_cases hf : most ≤ n
    · have hv : refI ts n most tag = .iface 25 (.int .i64 5) := by unfold refI; rw [if_neg hp2, if_pos hf]
      rw [hv]
      clear hv hp hp2
      go_wp2_with fail
      refine (is_other 5 7 _ (by omega)).mono ?_
      rintro e w3 ⟨rfl, rfl⟩
      go_wp2
      go_ret
      exact ⟨by rw [HDV.out]; rfl, hb2⟩
    · have hv : refI ts n most tag = .nilIface := by unfold refI; rw [if_neg hp2, if_neg hf]
      rw [hv]
      clear hv hp hp2
      go_wp2_with fail
      refine (is_nil 7 _).mono ?_
      rintro e w3 ⟨rfl, rfl⟩
      go_wp2
      go_ret
      exact ⟨by rw [HDV.out]; rfl, hb2⟩

theorem pick_none (g : Nat) (rows : List (List Value)) (n most : Nat) (k : Int) (w : World) (h : TG w g rows n most) (hk : k < 0 ∨ (n : Int) ≤ k) :
    Calls Try.prog 13 #[.pointer (some ⟨g, 0, none⟩), .int .i64 k] w fun e w' => e = .returned (.tuple #[.agg askZ.toArray, .int .i64 6]) ∧ Below w.heap.size w w' := by
  have hz := askZ_zero
  have kn := h.n_at
  have hgl := h.lt
  have hB := Blk.new w 32 askZ
  have hb : Below w.heap.size w (w.alloc (.cells askZ.toArray 32)) := (Below.refl _ _).alloc (Nat.le_refl _) _
  have kn' := cell_later hb kn
  unfold askZ at hB hb kn'
  rcases Int.lt_or_le k 0 with h0 | h0
  · clear hk
    go_enter Try.func13, Try.ntmps13
    go_upto_region 1 with fail
    generalize w.alloc (.cells #[.int .i64 0, .int .i64 0, .int .i64 0, .int .i64 0, .int .i64 0, .int .i64 0, .int .i64 0, .int .i64 0, .int .i64 0, .int .i64 0, .string ByteArray.empty, .slice none 0 0, .int .i64 0, .slice none 0 0] 32) = W at hB hb kn'
    go_wp2_with (refine wpList_storeBlk rfl (.tmp 4) (.tmp 16) rfl rfl [.int .i64 0, .int .i64 0, .int .i64 0, .int .i64 0, .int .i64 0, .int .i64 0, .int .i64 0, .int .i64 0, .int .i64 0, .int .i64 0, .string ByteArray.empty, .slice none 0 0, .int .i64 0, .slice none 0 0] rfl rfl (by kernel_rfl) hB rfl (by simp [Value.oneCell']) ?_)
    have hF := hB.setRow [.int .i64 0, .int .i64 0, .int .i64 0, .int .i64 0, .int .i64 0, .int .i64 0, .int .i64 0, .int .i64 0, .int .i64 0, .int .i64 0, .string ByteArray.empty, .slice none 0 0, .int .i64 0, .slice none 0 0]
    have z0 := hF.cell 0 _ rfl
    have z1 := hF.cell 1 _ rfl
    have z2 := hF.cell 2 _ rfl
    have z3 := hF.cell 3 _ rfl
    have z4 := hF.cell 4 _ rfl
    have z5 := hF.cell 5 _ rfl
    have z6 := hF.cell 6 _ rfl
    have z7 := hF.cell 7 _ rfl
    have z8 := hF.cell 8 _ rfl
    have z9 := hF.cell 9 _ rfl
    have z10 := hF.cell 10 _ rfl
    have z11 := hF.cell 11 _ rfl
    have z12 := hF.cell 12 _ rfl
    have z13 := hF.cell 13 _ rfl
    have hbF := below_setRow hb (Nat.le_refl _) #[.int .i64 0, .int .i64 0, .int .i64 0, .int .i64 0, .int .i64 0, .int .i64 0, .int .i64 0, .int .i64 0, .int .i64 0, .int .i64 0, .string ByteArray.empty, .slice none 0 0, .int .i64 0, .slice none 0 0]
    exact bodyPost_ret (v := .tuple #[.agg #[.int .i64 0, .int .i64 0, .int .i64 0, .int .i64 0, .int .i64 0, .int .i64 0, .int .i64 0, .int .i64 0, .int .i64 0, .int .i64 0, .string ByteArray.empty, .slice none 0 0, .int .i64 0, .slice none 0 0], .int .i64 6]) (by simp [results, Try.results13, go_sem, z0, z1, z2, z3, z4, z5, z6, z7, z8, z9, z10, z11, z12, z13]) rfl ⟨rfl, hbF⟩
  · have hk2 : (n : Int) ≤ k := by omega
    have hk3 : ¬ k < 0 := by omega
    clear hk
    go_enter Try.func13, Try.ntmps13
    go_upto_region 1 with fail
    generalize w.alloc (.cells #[.int .i64 0, .int .i64 0, .int .i64 0, .int .i64 0, .int .i64 0, .int .i64 0, .int .i64 0, .int .i64 0, .int .i64 0, .int .i64 0, .string ByteArray.empty, .slice none 0 0, .int .i64 0, .slice none 0 0] 32) = W at hB hb kn'
    go_wp2_with (refine wpList_storeBlk rfl (.tmp 4) (.tmp 16) rfl rfl [.int .i64 0, .int .i64 0, .int .i64 0, .int .i64 0, .int .i64 0, .int .i64 0, .int .i64 0, .int .i64 0, .int .i64 0, .int .i64 0, .string ByteArray.empty, .slice none 0 0, .int .i64 0, .slice none 0 0] rfl rfl (by kernel_rfl) hB rfl (by simp [Value.oneCell']) ?_)
    have hF := hB.setRow [.int .i64 0, .int .i64 0, .int .i64 0, .int .i64 0, .int .i64 0, .int .i64 0, .int .i64 0, .int .i64 0, .int .i64 0, .int .i64 0, .string ByteArray.empty, .slice none 0 0, .int .i64 0, .slice none 0 0]
    have z0 := hF.cell 0 _ rfl
    have z1 := hF.cell 1 _ rfl
    have z2 := hF.cell 2 _ rfl
    have z3 := hF.cell 3 _ rfl
    have z4 := hF.cell 4 _ rfl
    have z5 := hF.cell 5 _ rfl
    have z6 := hF.cell 6 _ rfl
    have z7 := hF.cell 7 _ rfl
    have z8 := hF.cell 8 _ rfl
    have z9 := hF.cell 9 _ rfl
    have z10 := hF.cell 10 _ rfl
    have z11 := hF.cell 11 _ rfl
    have z12 := hF.cell 12 _ rfl
    have z13 := hF.cell 13 _ rfl
    have hbF := below_setRow hb (Nat.le_refl _) #[.int .i64 0, .int .i64 0, .int .i64 0, .int .i64 0, .int .i64 0, .int .i64 0, .int .i64 0, .int .i64 0, .int .i64 0, .int .i64 0, .string ByteArray.empty, .slice none 0 0, .int .i64 0, .slice none 0 0]
    exact bodyPost_ret (v := .tuple #[.agg #[.int .i64 0, .int .i64 0, .int .i64 0, .int .i64 0, .int .i64 0, .int .i64 0, .int .i64 0, .int .i64 0, .int .i64 0, .int .i64 0, .string ByteArray.empty, .slice none 0 0, .int .i64 0, .slice none 0 0], .int .i64 6]) (by simp [results, Try.results13, go_sem, z0, z1, z2, z3, z4, z5, z6, z7, z8, z9, z10, z11, z12, z13]) rfl ⟨rfl, hbF⟩

/-- make([]T, n), T of one cell. -/
theorem wpList_makeV {P : Program} {w : World} {ops : Array Oper} {rest : List Oper} {o : Oper} {a : Act} {Q : Exit → Act → World → Prop} {t e : TypeId} {z : Value} {bytes : Nat} (el : Elem P t e z 1 bytes) (hz1 : z.cells = #[z])
    (hgd : o.guard = none) (x y : Operand) (ho : o.op = .makeSlice t x y) (kl kc : IntKind) (n : Nat) (hx : a.eval x = .int kl n) (hy : a.eval y = .int kc n) (hc : n ≤ 1048576) (hby : bytes ≤ 1024) (base : Nat) (hbase : base ≤ w.heap.size)
    (h : ∀ (g : Nat) (w' : World), OwV w' base e (some ⟨g, 0, none⟩) n n (List.replicate n z) → Below w.heap.size w w' → w.heap.size ≤ g →
      wpList P ops Q rest (a.put o.dst (.slice (some ⟨g, 0, none⟩) n n)) w') : wpList P ops Q (o :: rest) a w := by
  obtain ⟨i, hi, hz, h2, h3⟩ := el.info
  have hb2 : (i.bytes : Int) * n ≤ 281474976710656 := by
    rw [h3]
    have h4 : bytes * n ≤ 1024 * 1048576 := Nat.mul_le_mul hby hc
    have h5 : ((bytes * n : Nat) : Int) ≤ 1073741824 := by omega
    rw [Int.natCast_mul] at h5
    omega
  have hr := run_make (P := P) w t e i z el.ht hi hz kl kc n n (by omega) (by omega) hb2 (by omega)
  simp only [Int.toNat_natCast, h2, Nat.mul_one] at hr
  refine wpList_plain hgd fun K hK => ?_
  unfold Oper.wp execOp
  simp only [ho, hx, hy, hr, Sem.run_bind, Result.andThen_ok, Sem.run_pure]
  refine hK _ _ (h w.heap.size _ ?_ ((Below.refl _ _).alloc (Nat.le_refl _) _) (Nat.le_refl _))
  have e1 : (madeCells z.cells n).toList = List.replicate n z := by rw [hz1]; exact toList_madeCells_one _ n
  have e2 : (madeCells z.cells n).size = n := by rw [← Array.length_toList, e1, List.length_replicate]
  refine ⟨by simp, .inr ⟨w.heap.size, n, _, (0, 0), rfl, hbase, heap_alloc_new w _, .inl (Nat.le_refl _), Nat.le_refl _, by unfold maxLen; omega, by rw [e2, Nat.mul_one], ?_⟩⟩
  rw [e1, Nat.mul_one, List.take_of_length_le (by simp)]
end Go.Proofs.Ytgogdgpdkkbfhaa
