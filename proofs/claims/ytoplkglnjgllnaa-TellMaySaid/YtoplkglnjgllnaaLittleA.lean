/-
  Layer 2: numbers laid behind bytes.
-/
import Derived.Test.YtoplkglnjgllnaaRefA
import Derived.Test.YtoplkglnjgllnaaBytesB
import Derived.Test.YtoplkglnjgllnaaLittleP
import Derived.WalkKit
namespace Go.Proofs.Ytoplkglnjgllnaa
open Go.RowKit
set_option linter.unusedVariables false

/-- append of bytes onto bytes that are the call's own, or that have no room. -/
theorem wpList_append_eitherB {P : Program} {w : World} {ops : Array Oper} {rest : List Oper} {o : Oper} {a : Act} {Q : Exit → Act → World → Prop} {t : TypeId} (el : Elem P t 5 (.int .u8 0) 1 1)
    (hgd : o.guard = none) (s x : Operand) (u : TypeId) (ho : o.op = .call { callee := .builtin .append, args := #[s, x], argTypes := #[t, u] })
    (base : Nat) (A0 : Option Addr) (n0 c0 B : Nat) (l1 : List UInt8) (hs : a.eval s = .slice A0 n0 c0) (hown : (c0 = n0 ∧ RdB w B A0 n0 l1) ∨ OwB w base A0 n0 c0 l1)
    (xv : Value) (hx : a.eval x = xv) (m : Nat) (l2 : List UInt8) (hsrc : Src P w u 1 xv m (bv l2)) (hm : 0 < m)
    (h63 : n0 + m ≤ 1073741824) (hbase : base ≤ w.heap.size)
    (h : ∀ (A : Option Addr) (n c : Nat) (l' : List UInt8) (w' : World), Hid (l' = l1 ++ l2) → Hid (n = n0 + m) → OwB w' base A n c l' → Below base w w' →
      wpList P ops Q rest (a.put o.dst (.slice A n c)) w') : wpList P ops Q (o :: rest) a w := by
  rcases hown with ⟨hc, hr⟩ | hown
  · exact wpList_append_fullB el hgd s x u ho base A0 n0 c0 B l1 hs hr xv hx m l2 hsrc (by omega) h63 hbase (fun A n c l' w' h1 h2 h3 h4 => h A n c l' w' h1 h2 h3 (h4.mono hbase))
  · exact wpList_appendB el hgd s x u ho base A0 n0 c0 l1 hs hown xv hx m l2 hsrc h63 hbase (fun A n c l' w' h1 h2 h3 h4 _ => h A n c l' w' h1 h2 h3 h4)

def LayRel (B : Nat) (w : World) (l : List UInt8) (x size : Nat) (v i : Value) (wr : World) : Prop :=
  ∃ (j n' c' : Nat) (A' : Option Addr) (l' : List UInt8), j ≤ size ∧ i = .int .i64 j ∧ v = .slice A' n' c' ∧ l' = l ++ le j x ∧ ((c' = n' ∧ RdB wr B A' n' l' ∧ j = 0) ∨ OwB wr B A' n' c' l') ∧ Below B w wr

def LayPost (w : World) (l : List UInt8) (e : Ending) (w' : World) : Prop := ∃ A' n' c' l', Hid (l' = l) ∧ e = .returned (.slice A' n' c') ∧ OwB w' w.heap.size A' n' c' l' ∧ Below w.heap.size w w'

/-- One byte in a block of its own, its number reckoned. -/
theorem Src.oneByteV {P : Program} (w : World) (u e : TypeId) (hu : P.underlying u = some (.slice e)) (v : Int) (x : UInt8) (hv : v = (x.toNat : Int)) (t : TypeId) :
    Src P (w.alloc (.cells #[.int .u8 v] t)) u 1 (.slice (some ⟨w.heap.size, 0, none⟩) 1 1) 1 (bv [x]) := by
  subst hv
  exact Src.oneByte w u e hu x t
theorem byte_of (x j : Nat) : ((x : Int) / 2 ^ (8 * j) % 256) = ((UInt8.ofNat (x / 256 ^ j)).toNat : Int) := by
  have e : (256 : Nat) ^ j = 2 ^ (8 * j) := by rw [Nat.pow_mul]
  rw [e]
  simp
theorem lay_len {B n j n' c' x : Nat} {wr : World} {l l' : List UInt8} {A' : Option Addr} (h : l.length = n) (hl : l' = l ++ le j x) (ho : (c' = n' ∧ RdB wr B A' n' l' ∧ j = 0) ∨ OwB wr B A' n' c' l') (hj : j ≤ 8) (hn : n ≤ 1048576) : n' ≤ 1048584 := by
  have : l'.length = n' := by rcases ho with ⟨_, h, _⟩ | h <;> exact h.len
  rw [← this, hl, List.length_append, le_length]
  omega
theorem lay_alloc {B j n' c' : Nat} {w wr : World} {l' : List UInt8} {A' : Option Addr} (ho : (c' = n' ∧ RdB wr B A' n' l' ∧ j = 0) ∨ OwB wr B A' n' c' l') (hb : Below B w wr) (o : Obj) (hB : B ≤ w.heap.size := by exact Nat.le_refl _) :
    (c' = n' ∧ RdB (wr.alloc o) B A' n' l') ∨ OwB (wr.alloc o) B A' n' c' l' := by
  rcases ho with ⟨h1, h2, _⟩ | h
  · exact .inl ⟨h1, h2.alloc (Nat.le_trans hB hb.size) o⟩
  · exact .inr (h.alloc o)
theorem lay_own {B j n' c' : Nat} {wr : World} {l' : List UInt8} {A' : Option Addr} (ho : (c' = n' ∧ RdB wr B A' n' l' ∧ j = 0) ∨ OwB wr B A' n' c' l') (hj : 1 ≤ j) : OwB wr B A' n' c' l' := by
  rcases ho with ⟨_, _, h⟩ | h
  · omega
  · exact h

theorem lay8_any (A : Option Addr) (n c : Nat) (l : List UInt8) (x size : Nat) (w : World) (h : RdB w w.heap.size A n l) (hn : n ≤ c) (hn2 : n ≤ 1048576) (hx : x ≤ 255) (hs : 1 ≤ size) (hs2 : size ≤ 8) :
    Calls Try.prog 84 #[.slice A n c, .int .u8 x, .int .i64 size] w (LayPost w (l ++ le size x)) := by
  go_enter Try.func84, Try.ntmps84
  go_wp2
  go_loopw [0, 15] (fun v i wr => LayRel w.heap.size w l x size v i wr) (fun _ i _ => size - (intOf i).toNat)
  case atStart => exact ⟨0, n, n, A, l, by omega, rfl, rfl, by simp [le], .inl ⟨rfl, h, rfl⟩, Below.refl _ _⟩
  case round =>
    obtain ⟨j, n', c', A', l', hj, rfl, rfl, hl', hor, hbw⟩ := hrel
    have hln : n' ≤ 1048584 := lay_len h.len hl' hor (by omega) hn2
    have HL := Lib.hid hl'
    have HO := Lib.hid hor
    have hsz := hbw.size
    have hby := Lib.hid (byte_of x j)
    clear hl' hor
    by_cases hlt : j < size
    · go_wp2_with (at_builtin; go_must (refine wpList_append_eitherB bytesElem rfl (.tmp 18) (.tmp 25) 25 rfl w.heap.size A' n' c' w.heap.size l' rfl (lay_alloc HO.out hbw _) _ rfl 1 [UInt8.ofNat (x / 256 ^ j)] (Src.oneByteV _ _ _ Try.underlying25 _ _ hby.out _) (by omega) (by omega) (by simp; omega) ?_); intro A3 n3 c3 l3 w3 hl3 hn3 hown3 hb3)
      go_roundw
      case rel => exact ⟨j + 1, n3, c3, A3, l3, by omega, by go_num, rfl, by rw [hl3.out, HL.out, le_succ, List.append_assoc], .inr hown3, (hbw.alloc hsz _).trans hb3⟩
      case measure => simp [intOf]; omega
    · obtain rfl : j = size := by omega
      have ho := lay_own HO.out hs
      go_wp2
      go_ret
      exact ⟨A', n', c', l', HL, rfl, ho, hbw⟩

theorem lay16_any (A : Option Addr) (n c : Nat) (l : List UInt8) (x size : Nat) (w : World) (h : RdB w w.heap.size A n l) (hn : n ≤ c) (hn2 : n ≤ 1048576) (hx : x ≤ 65535) (hs : 1 ≤ size) (hs2 : size ≤ 8) :
    Calls Try.prog 83 #[.slice A n c, .int .u16 x, .int .i64 size] w (LayPost w (l ++ le size x)) := by
  go_enter Try.func83, Try.ntmps83
  go_wp2
  go_loopw [0, 15] (fun v i wr => LayRel w.heap.size w l x size v i wr) (fun _ i _ => size - (intOf i).toNat)
  case atStart => exact ⟨0, n, n, A, l, by omega, rfl, rfl, by simp [le], .inl ⟨rfl, h, rfl⟩, Below.refl _ _⟩
  case round =>
    obtain ⟨j, n', c', A', l', hj, rfl, rfl, hl', hor, hbw⟩ := hrel
    have hln : n' ≤ 1048584 := lay_len h.len hl' hor (by omega) hn2
    have HL := Lib.hid hl'
    have HO := Lib.hid hor
    have hsz := hbw.size
    have hby := Lib.hid (byte_of x j)
    clear hl' hor
    by_cases hlt : j < size
    · go_wp2_with (at_builtin; go_must (refine wpList_append_eitherB bytesElem rfl (.tmp 18) (.tmp 25) 25 rfl w.heap.size A' n' c' w.heap.size l' rfl (lay_alloc HO.out hbw _) _ rfl 1 [UInt8.ofNat (x / 256 ^ j)] (Src.oneByteV _ _ _ Try.underlying25 _ _ hby.out _) (by omega) (by omega) (by simp; omega) ?_); intro A3 n3 c3 l3 w3 hl3 hn3 hown3 hb3)
      go_roundw
      case rel => exact ⟨j + 1, n3, c3, A3, l3, by omega, by go_num, rfl, by rw [hl3.out, HL.out, le_succ, List.append_assoc], .inr hown3, (hbw.alloc hsz _).trans hb3⟩
      case measure => simp [intOf]; omega
    · obtain rfl : j = size := by omega
      have ho := lay_own HO.out hs
      go_wp2
      go_ret
      exact ⟨A', n', c', l', HL, rfl, ho, hbw⟩

theorem lay32_any (A : Option Addr) (n c : Nat) (l : List UInt8) (x size : Nat) (w : World) (h : RdB w w.heap.size A n l) (hn : n ≤ c) (hn2 : n ≤ 1048576) (hx : x ≤ 4294967295) (hs : 1 ≤ size) (hs2 : size ≤ 8) :
    Calls Try.prog 82 #[.slice A n c, .int .u32 x, .int .i64 size] w (LayPost w (l ++ le size x)) := by
  go_enter Try.func82, Try.ntmps82
  go_wp2
  go_loopw [0, 15] (fun v i wr => LayRel w.heap.size w l x size v i wr) (fun _ i _ => size - (intOf i).toNat)
  case atStart => exact ⟨0, n, n, A, l, by omega, rfl, rfl, by simp [le], .inl ⟨rfl, h, rfl⟩, Below.refl _ _⟩
  case round =>
    obtain ⟨j, n', c', A', l', hj, rfl, rfl, hl', hor, hbw⟩ := hrel
    have hln : n' ≤ 1048584 := lay_len h.len hl' hor (by omega) hn2
    have HL := Lib.hid hl'
    have HO := Lib.hid hor
    have hsz := hbw.size
    have hby := Lib.hid (byte_of x j)
    clear hl' hor
    by_cases hlt : j < size
    · go_wp2_with (at_builtin; go_must (refine wpList_append_eitherB bytesElem rfl (.tmp 18) (.tmp 25) 25 rfl w.heap.size A' n' c' w.heap.size l' rfl (lay_alloc HO.out hbw _) _ rfl 1 [UInt8.ofNat (x / 256 ^ j)] (Src.oneByteV _ _ _ Try.underlying25 _ _ hby.out _) (by omega) (by omega) (by simp; omega) ?_); intro A3 n3 c3 l3 w3 hl3 hn3 hown3 hb3)
      go_roundw
      case rel => exact ⟨j + 1, n3, c3, A3, l3, by omega, by go_num, rfl, by rw [hl3.out, HL.out, le_succ, List.append_assoc], .inr hown3, (hbw.alloc hsz _).trans hb3⟩
      case measure => simp [intOf]; omega
    · obtain rfl : j = size := by omega
      have ho := lay_own HO.out hs
      go_wp2
      go_ret
      exact ⟨A', n', c', l', HL, rfl, ho, hbw⟩

theorem lay64_any (A : Option Addr) (n c : Nat) (l : List UInt8) (x size : Nat) (w : World) (h : RdB w w.heap.size A n l) (hn : n ≤ c) (hn2 : n ≤ 1048576) (hx : x ≤ 18446744073709551615) (hs : 1 ≤ size) (hs2 : size ≤ 8) :
    Calls Try.prog 91 #[.slice A n c, .int .u64 x, .int .i64 size] w (LayPost w (l ++ le size x)) := by
  go_enter Try.func91, Try.ntmps91
  go_wp2
  go_loopw [0, 15] (fun v i wr => LayRel w.heap.size w l x size v i wr) (fun _ i _ => size - (intOf i).toNat)
  case atStart => exact ⟨0, n, n, A, l, by omega, rfl, rfl, by simp [le], .inl ⟨rfl, h, rfl⟩, Below.refl _ _⟩
  case round =>
    obtain ⟨j, n', c', A', l', hj, rfl, rfl, hl', hor, hbw⟩ := hrel
    have hln : n' ≤ 1048584 := lay_len h.len hl' hor (by omega) hn2
    have HL := Lib.hid hl'
    have HO := Lib.hid hor
    have hsz := hbw.size
    have hby := Lib.hid (byte_of x j)
    clear hl' hor
    by_cases hlt : j < size
    · go_wp2_with (at_builtin; go_must (refine wpList_append_eitherB bytesElem rfl (.tmp 18) (.tmp 24) 25 rfl w.heap.size A' n' c' w.heap.size l' rfl (lay_alloc HO.out hbw _) _ rfl 1 [UInt8.ofNat (x / 256 ^ j)] (Src.oneByteV _ _ _ Try.underlying25 _ _ hby.out _) (by omega) (by omega) (by simp; omega) ?_); intro A3 n3 c3 l3 w3 hl3 hn3 hown3 hb3)
      go_roundw
      case rel => exact ⟨j + 1, n3, c3, A3, l3, by omega, by go_num, rfl, by rw [hl3.out, HL.out, le_succ, List.append_assoc], .inr hown3, (hbw.alloc hsz _).trans hb3⟩
      case measure => simp [intOf]; omega
    · obtain rfl : j = size := by omega
      have ho := lay_own HO.out hs
      go_wp2
      go_ret
      exact ⟨A', n', c', l', HL, rfl, ho, hbw⟩
end Go.Proofs.Ytoplkglnjgllnaa
