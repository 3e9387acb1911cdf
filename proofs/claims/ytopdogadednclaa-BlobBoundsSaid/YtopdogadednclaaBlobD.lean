/-
  The reference of layer 12: Read, Resize, Write.
-/
import Derived.Test.YtopdogadednclaaBlobC
namespace Go.Proofs.Ytopdogadednclaa
open Go.RowKit
set_option linter.unusedVariables false

theorem st_extract (l : List UInt8) (i j : Nat) : (st l).extract i j = st ((l.drop i).take (j - i)) := by
  apply ByteArray.ext
  simp [st, List.extract_eq_take_drop]
theorem take_snoc (l : List UInt8) (off k : Nat) : (l.drop off).take k ++ (l.drop (off + k)).take 1 = (l.drop off).take (k + 1) := by
  rw [← List.drop_drop, List.take_add]
  

def ReadRel (l : List UInt8) (off n : Nat) (o i : Value) : Prop :=
  ∃ k : Nat, (k = 0 ∨ off + k ≤ l.length) ∧ k ≤ n ∧ i = .int .i64 (off + k : Nat) ∧ o = .string (st ((l.drop off).take k))

def ReadPost (w : World) (l : List UInt8) (off n : Nat) (e : Ending) (w' : World) : Prop := ∃ l' E, Hid (l' = rdB l off n) ∧ Hid (E = rdEnd l off n) ∧ e = .returned (.tuple #[.string (st l'), .bool E]) ∧ w = w'

theorem refRead_any (l : List UInt8) (off n : Nat) (w : World) (hl : l.length ≤ 4096) (ho : off ≤ 9223372036854775807) (hn : n ≤ 9223372036854775807) :
    Calls Try.prog 19 #[.string (st l), .int .i64 off, .int .i64 n] w (ReadPost w l off n) := by
  have hsz := st_size l
  have HZ := Lib.hid hsz
  go_enter Try.func19, Try.ntmps19
  go_wp2
  go_loop [8, 9] (fun o i => ReadRel l off n o i) (fun _ i => l.length - (intOf i).toNat)
  case atStart => exact ⟨0, .inl rfl, Nat.zero_le _, rfl, rfl⟩
  case round =>
    obtain ⟨k, hk1, hk2, rfl, rfl⟩ := hrel
    have hsz2 : (st ((l.drop off).take k)).size = k := by rw [st_size, List.length_take, List.length_drop]; omega
    by_cases hlt : off + k < l.length
    · by_cases hlt2 : k < n
      · have hx : (st l).extract (off + k) (off + k + 1) = st ((l.drop (off + k)).take 1) := by rw [st_extract]; congr 2; omega
        have hq1 : (st ((l.drop (off + k)).take 1)).size = 1 := by rw [st_size, List.length_take, List.length_drop]; omega
        generalize hq : (l.drop (off + k)).take 1 = q at hx hq1
        generalize hp : (l.drop off).take k = p at hsz2 ⊢
        have hc := st_append p q
        have hr := take_snoc l off k
        rw [hq, hp] at hr
        have HR := Lib.hid hr
        clear hr hq hp
        go_wp2
        go_round
        case rel => exact ⟨k + 1, .inr (by omega), by omega, by go_num, by rw [HR.out]⟩
        case measure => simp [intOf]; omega
      · have e1 : k = n := by omega
        have e2 : rdEnd l off n = false := by unfold rdEnd; simp; omega
        have e3 : (l.drop off).take k = rdB l off n := by rw [e1]; rfl
        have hd : decide (k < n) = false := by simp; omega
        have hd3 : decide (l.length ≤ off + k) = false := by simp; omega
        have hd4 : decide ((l.length : Int) ≤ (off : Int) + k) = false := by simp; omega
        have HE := Lib.hid e2
        generalize (l.drop off).take k = p at hsz2 e3 ⊢
        have HP := Lib.hid e3
        clear e1 e2 e3
        go_wp2
        go_ret2
        exact ⟨p, false, HP, HE.out.symm, rfl, rfl⟩
    · have e2 : rdEnd l off n = true := by unfold rdEnd; simp; omega
      have e3 : (l.drop off).take k = rdB l off n := by
        unfold rdB
        rcases hk1 with rfl | hk1
        · rw [List.drop_of_length_le (by omega)]; simp
        · rw [List.take_of_length_le (by rw [List.length_drop]; omega), List.take_of_length_le (by rw [List.length_drop]; omega)]
      have hd : decide ((off : Int) + k < l.length) = false := by simp; omega
      have hd4 : decide ((l.length : Int) ≤ (off : Int) + k) = true := by simp; omega
      have HE := Lib.hid e2
      generalize (l.drop off).take k = p at hsz2 e3 ⊢
      have HP := Lib.hid e3
      clear e2 e3
      go_wp2
      go_ret2
      exact ⟨p, true, HP, HE.out.symm, rfl, rfl⟩

def ResPost (w : World) (l : List UInt8) (E0 : Int) (e : Ending) (w' : World) : Prop := ∃ l' E, Hid (l' = l) ∧ Hid (E = E0) ∧ e = .returned (.tuple #[.string (st l'), .int .i64 E]) ∧ Below w.heap.size w w'

def PadRel (B : Nat) (w : World) (l : List UInt8) (size : Nat) (v : Value) (wr : World) : Prop :=
  ∃ (j n' c' : Nat) (A' : Option Addr) (l' : List UInt8), (j = 0 ∨ l.length + j ≤ size) ∧ v = .slice A' n' c' ∧ l' = l ++ List.replicate j 0 ∧ OwB wr B A' n' c' l' ∧ Below B w wr

/-- A slice's length. -/
def lenV : Value → Nat | .slice _ n _ => n | _ => 0

theorem refResize_any (l : List UInt8) (size : Nat) (w : World) (hl : l.length ≤ 4096) (hs : size ≤ 9223372036854775807) :
    Calls Try.prog 17 #[.string (st l), .int .i64 size] w (ResPost w (rzB l size) (rzE size)) := by
  by_cases hb : 2048 < size
  · have hw1 : rzB l size = [] := by unfold rzB; rw [if_pos hb]
    have hw2 : rzE size = 15 := by unfold rzE; rw [if_pos hb]
    rw [hw1, hw2]
    clear hw1 hw2
    go_enter Try.func17, Try.ntmps17
    go_wp2
    go_ret2
    exact ⟨[], 15, rfl, rfl, rfl, Below.refl _ _⟩
  · have hw1 : rzB l size = l.take size ++ List.replicate (size - l.length) 0 := by unfold rzB; rw [if_neg hb]
    have hw2 : rzE size = 0 := by unfold rzE; rw [if_neg hb]
    rw [hw1, hw2]
    clear hw1 hw2
    go_enter Try.func17, Try.ntmps17
    go_wp2_with (with_reducible refine wpList_stringB bytesElem Try.underlying5 rfl (.tmp 9) 9 Try.underlying9 rfl l rfl (by omega) w.heap.size (Nat.le_refl _) ?_; intro g n0 c0 w1 hn0 hown1 hb1)
    go_loopw [6] (fun v wr => PadRel w.heap.size w l size v wr) (fun v _ => size - lenV v)
    case atStart => exact ⟨0, n0, c0, _, l, .inl rfl, rfl, by simp, hown1, hb1⟩
    case round =>
      obtain ⟨j, n', c', A', l', hj, rfl, hl', hown', hbw⟩ := hrel
      have hln : n' = l.length + j := by rw [← hown'.len, hl']; simp
      have hlb : n' ≤ 8192 := by omega
      have hcc := hown'.cap
      unfold maxLen at hcc
      have HL := Lib.hid hl'
      have HN := Lib.hid hln
      have hsz := hbw.size
      by_cases hlt : n' < size
      · have hj2 : l.length + (j + 1) ≤ size := by omega
        clear hl' hln hj
        go_wp2_with (first
          | (at_builtin; go_must (refine wpList_appendB bytesElem rfl (.tmp 15) (.tmp 16) 22 rfl w.heap.size A' n' c' l' rfl (hown'.alloc _) _ rfl 1 [0] (Src.oneByte _ _ _ Try.underlying22 0 _) (by omega) (by simp; omega) ?_); intro A3 n3 c3 l3 w3 hl3 hn3 hown3 hb3 hg3))
        have hn4 := hn3.out
        go_roundw
        case rel => exact ⟨j + 1, n3, c3, A3, l3, .inr hj2, rfl, by rw [hl3.out, HL.out, List.replicate_succ', List.append_assoc], hown3, (hbw.alloc hsz _).trans hb3⟩
        case measure => simp [lenV]; omega
      · have hf := hown'.rd.first (k := size) (by omega)
        have e : l'.take size = l.take size ++ List.replicate (size - l.length) 0 := by
          rw [hl', List.take_append, List.take_replicate]
          congr 2
          omega
        generalize hq : l'.take size = q at hf e
        have HE := Lib.hid e
        have hcv := run_bytes_string (P := Try.prog) (c := c') 22 9 5 Try.underlying22 Try.underlying5 Try.underlying9 hf
        have hd : decide ((n' : Int) < size) = false := by simp; omega
        clear hl' hln hj hf e hq
        go_wp2
        go_ret2
        exact ⟨q, 0, HE, rfl, rfl, hbw⟩
end Go.Proofs.Ytopdogadednclaa
