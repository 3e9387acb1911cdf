/-
  The reference's Byte and Print; IndexByte over the digits.
-/
import Derived.Test.YtipmeclcamllbaaNameC
import Derived.Lib.Bytealg
import Derived.Deep.QuietTactic
import Derived.BigQuiet
namespace Go.Proofs.Ytipmeclcamllbaa
open Go.RowKit
set_option linter.unusedVariables false

theorem ext_digs (n : Nat) (h : n < 16) : (({ data := #[48, 49, 50, 51, 52, 53, 54, 55, 56, 57, 97, 98, 99, 100, 101, 102] } : ByteArray).extract n (n + 1)) = st [hexd n] := by
  have : ∀ n : Fin 16, (({ data := #[48, 49, 50, 51, 52, 53, 54, 55, 56, 57, 97, 98, 99, 100, 101, 102] } : ByteArray).extract n.val (n.val + 1)).data.toList = [hexd n.val] := by decide +kernel
  have h2 := this ⟨n, h⟩
  rw [st_of (({ data := #[48, 49, 50, 51, 52, 53, 54, 55, 56, 57, 97, 98, 99, 100, 101, 102] } : ByteArray).extract n (n + 1)), h2]

def hexv (c : UInt8) : Int := match unhex c with | some n => n | none => -1
theorem hexv_eq (c : UInt8) : Lib.indexByte [48, 49, 50, 51, 52, 53, 54, 55, 56, 57, 97, 98, 99, 100, 101, 102] c = hexv c := by
  have : ∀ n : Fin 256, Lib.indexByte [48, 49, 50, 51, 52, 53, 54, 55, 56, 57, 97, 98, 99, 100, 101, 102] (UInt8.ofNat n.val) = hexv (UInt8.ofNat n.val) := by decide +kernel
  have h := this ⟨c.toNat, c.toNat_lt⟩
  simpa using h

theorem idxByte_any (c : UInt8) (w : World) : Calls Try.prog 23 #[.string { data := #[48, 49, 50, 51, 52, 53, 54, 55, 56, 57, 97, 98, 99, 100, 101, 102] }, .int .u8 (c.toNat : Int)] w fun e w' => e = .returned (.int .i64 (hexv c)) ∧ w = w' := by
  have hr : ∀ W, (callFunc 26 #[.string { data := #[48, 49, 50, 51, 52, 53, 54, 55, 56, 57, 97, 98, 99, 100, 101, 102] }, .int .u8 (c.toNat : Int)]).run Try.prog W = .ok (.value (.int .i64 (hexv c))) W := fun W => by
    rw [run_callFunc_indexByte (P := Try.prog) (f := 26) Try.func26 (by kernel_rfl) (by kernel_rfl) (by kernel_rfl) (by kernel_rfl), Lib.run_indexByteString]
    have e : ((c.toNat : Int).toNat.toUInt8) = c := by simp
    rw [e]
    show Result.ok _ _ = _
    rw [← hexv_eq c]
  go_enter Try.func23, Try.ntmps23
  go_wp2
  go_ret
  exact ⟨rfl, rfl⟩

theorem byte_any (c : UInt8) (w : World) : Calls Try.prog 24 #[.int .u8 (c.toNat : Int)] w (StrPost w (pb c)) := by
  have hxb : c.toNat < 256 := c.toNat_lt
  cases hpl : plainB c with
  | true =>
    have hq : 32 < c.toNat ∧ c.toNat < 127 ∧ c.toNat ≠ 37 := by unfold plainB at hpl; simpa using hpl
    have hpx : pb c = [c] := by unfold pb; rw [hpl]; rfl
    rw [hpx]
    have t1 : decide ((32 : Int) < c.toNat) = true := by simp; omega
    have t2 : decide ((c.toNat : Int) < 127) = true := by simp; omega
    have t3 : ((c.toNat : Int) != 37) = true := by rw [bne_iff_ne]; omega
    have hcv := run_bytes_string (P := Try.prog) (c := 1) 26 9 5 Try.underlying26 Try.underlying5 Try.underlying9 (show RdB (w.alloc (.cells #[.int .u8 (c.toNat : Int)] 5)) (w.heap.size + 1) (some ⟨w.heap.size, 0, none⟩) 1 [c] from RdB.new w [c] #[.int .u8 (c.toNat : Int)] rfl 5 (0, 0))
    clear hpx hq
    go_enter Try.func24, Try.ntmps24
    go_wp2
    go_ret
    exact ⟨[c], rfl, rfl, (Below.refl _ _).alloc (Nat.le_refl _) _⟩
  | false =>
    have hq : c.toNat ≤ 32 ∨ 127 ≤ c.toNat ∨ c.toNat = 37 := by unfold plainB at hpl; simp at hpl; omega
    have hpx : pb c = [37, hexd (c.toNat / 16), hexd (c.toNat % 16)] := by unfold pb; rw [hpl]; rfl
    rw [hpx]
    have ht : (decide ((32 : Int) < c.toNat) = false) ∨ (decide ((32 : Int) < c.toNat) = true ∧ decide ((c.toNat : Int) < 127) = false) ∨ (decide ((32 : Int) < c.toNat) = true ∧ decide ((c.toNat : Int) < 127) = true ∧ ((c.toNat : Int) != 37) = false) := by
      simp; omega
    clear hpx hq
    have x1 := ext_digs (c.toNat / 16) (by omega)
    have x2 := ext_digs (c.toNat % 16) (by omega)
    have x3 : ({ data := #[37] } : ByteArray) = st [37] := rfl
    rcases ht with t1 | ⟨t1, t2⟩ | ⟨t1, t2, t3⟩
    all_goals
      go_enter Try.func24, Try.ntmps24
      go_wp2
      go_quiet (fail)
      go_wp2
      go_ret
      exact ⟨[37, hexd (c.toNat / 16), hexd (c.toNat % 16)], rfl, rfl, below_drewN (Below.refl _ _) _⟩

def RefPrintRel (w : World) (l : List UInt8) (o i : Value) (wr : World) : Prop :=
  ∃ k : Nat, k ≤ l.length ∧ i = .int .i64 k ∧ o = .string (st ((l.take k).flatMap pb)) ∧ Below w.heap.size w wr

set_option maxHeartbeats 1000000 in
theorem refPrint_any (l : List UInt8) (w : World) (hl : l.length ≤ 65536) : Calls Try.prog 21 #[.string (st l)] w (StrPost w (prt l)) := by
  cases h1 : (l == []) with
  | true =>
    obtain rfl : l = [] := by simpa using h1
    go_enter Try.func21, Try.ntmps21
    go_wp2
    go_ret
    exact ⟨[45], rfl, rfl, Below.refl _ _⟩
  | false =>
    cases h2 : (l == [45]) with
    | true =>
      obtain rfl : l = [45] := by simpa using h2
      go_enter Try.func21, Try.ntmps21
      go_wp2
      go_ret
      exact ⟨[37, 50, 100], rfl, rfl, Below.refl _ _⟩
    | false =>
      have e1 : l ≠ [] := by simpa using h1
      have e2 : l ≠ [45] := by simpa using h2
      have hp : prt l = l.flatMap pb := by unfold prt; rw [if_neg e1, if_neg e2]
      have HP := Lib.hid hp
      have h3 : l.isEmpty = false := by simpa using e1
      clear hp
      go_enter Try.func21, Try.ntmps21
      go_wp2
      go_loopw [3, 4] (fun o i wr => RefPrintRel w l o i wr) (fun _ i _ => l.length - (intOf i).toNat)
      case atStart => exact ⟨0, Nat.zero_le _, rfl, rfl, Below.refl _ _⟩
      case round =>
        obtain ⟨k, hk, rfl, rfl, hbw⟩ := hrel
        have hfl := (flat_length (l.take k)).1
        rw [List.length_take] at hfl
        by_cases hlt : k < l.length
        · obtain ⟨x, hx, hs⟩ : ∃ x : UInt8, (∀ h : k < (st l).size, (st l)[k]'h = x) ∧ (l.take (k + 1)).flatMap pb = (l.take k).flatMap pb ++ pb x := ⟨l[k], st_at l k hlt, pb_snoc l k hlt⟩
          generalize hq : (l.take k).flatMap pb = q at hs hfl ⊢
          have HS := Lib.hid hs
          have hql : q.length ≤ 262144 := by omega
          clear hs hq hfl
          go_wp2_with fail
          refine (byte_any x _).mono ?_
          rintro e w1 ⟨p, hp, rfl, hb1⟩
          have hpl : p.length ≤ 3 := by rw [hp.out]; exact (pb_length x).1
          have hn : ¬ (9223372036854775807 < q.length + p.length) := by omega
          go_wp2
          go_roundw
          case rel => exact ⟨k + 1, by omega, by go_num, by rw [HS.out, hp.out], Up.trans hbw hb1⟩
          case measure => simp [intOf]; omega
        · have hk2 : l.take k = l := List.take_of_length_le (by omega)
          rw [hk2]
          generalize hq : l.flatMap pb = q at HP ⊢
          have hd : decide (k < l.length) = false := by simp; omega
          clear hq hk2 hfl
          go_wp2
          go_ret
          exact ⟨q, HP.out.symm, rfl, hbw⟩
end Go.Proofs.Ytipmeclcamllbaa
