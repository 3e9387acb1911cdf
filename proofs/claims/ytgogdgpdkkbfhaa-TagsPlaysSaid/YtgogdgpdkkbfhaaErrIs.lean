/-
  errors.Is over errors that are numbers of the type Errno, or nil.
-/
import Derived.Test.YtgogdgpdkkbfhaaRefA
import Derived.Test.YtgogdgpdkkbfhaaBlk
import Derived.Lib.IfaceEq
import Derived.LaidEql
import Derived.Stop.Asserts
import Derived.RowKitTokens
namespace Go.Proofs.Ytgogdgpdkkbfhaa
open Go.RowKit Go.Extern.Stop Go.Stop Go.Extern
set_option linter.unusedVariables false

theorem isTypeOf (v : Value) (w : World) : (Extern.ReflectliteType.typeOf #[.iface 25 v]).run Try.prog w = .ok (.iface 80 (.agg #[.pointer (some ⟨0, 25, none⟩)])) w := by kernel_rfl
theorem isComparable (w : World) : (callFunc 61 #[.agg #[.pointer (some ⟨0, 25, none⟩)]]).run Try.prog w = .ok (.value (.bool true)) w := by
  have h := @run_callFunc_extern Try.prog 61 _ (Extern.ReflectliteType.method fun t => do Extern.Rtype.noPackHeld "Comparable" t; pure (.bool (← typeInfo t).comparable)) Try.func61 (by kernel_rfl) (by kernel_rfl) (by kernel_rfl) (by kernel_rfl)
  rw [h]
  have k : ((Extern.ReflectliteType.method fun t => do Extern.Rtype.noPackHeld "Comparable" t; pure (.bool (← typeInfo t).comparable)) #[.agg #[.pointer (some ⟨0, 25, none⟩)]]).run Try.prog w = .ok (.bool true) w := by kernel_rfl
  rw [k]
  rfl
theorem isMethodComparable (v : Value) (w : World) : (Go.method 74 80 v "Comparable").run Try.prog w = .ok (61, v) w := by kernel_rfl
theorem isComp : (Try.prog.info? 25).map (·.comparable) = some true := by kernel_rfl
theorem noIs (v : Value) (xT : TypeId) (w : World) : (Instr.typeAssert (.iface 25 v) xT 82 true).run Try.prog w = .ok (.tuple #[.nilIface, .bool false]) w := run_typeAssert_lacksB Try.underlying82 (by kernel_rfl) (by kernel_rfl) v xT w
theorem noUnwrap (v : Value) (xT : TypeId) (w : World) : (Instr.typeAssert (.iface 25 v) xT 85 true).run Try.prog w = .ok (.tuple #[.nilIface, .bool false]) w := run_typeAssert_lacksB Try.underlying85 (by kernel_rfl) (by kernel_rfl) v xT w
theorem noUnwraps (v : Value) (xT : TypeId) (w : World) : (Instr.typeAssert (.iface 25 v) xT 87 true).run Try.prog w = .ok (.tuple #[.nilIface, .bool false]) w := run_typeAssert_lacksB Try.underlying87 (by kernel_rfl) (by kernel_rfl) v xT w

theorem is_same (a : Int) (w : World) :
    Calls Try.prog 25 #[.iface 25 (.int .i64 a), .iface 25 (.int .i64 a)] w fun e w' => e = .returned (.bool true) ∧ w = w' := by
  have h8 := @run_callFunc_extern Try.prog 37 _ Extern.ReflectliteType.typeOf Try.func37 (by kernel_rfl) (by kernel_rfl) (by kernel_rfl) (by kernel_rfl)
  have tT := isTypeOf
  have cT := isComparable
  have mR := isMethodComparable
  have heq := Lib.run_eql_iface_int (P := Try.prog) w (t := 62) (tx := 25) (k := .i64) a a Try.underlying62 isComp Try.underlying25
  rw [show (a == a) = true by simp] at heq
  go_enter Try.func25, Try.ntmps25
  go_wp2
  refine wp_loop_rounds 1 ?_
  rw [rounds_succ]
  go_wp2
  go_ret
  exact ⟨rfl, rfl⟩

theorem is_other (a b : Int) (w : World) (hne : a ≠ b) :
    Calls Try.prog 25 #[.iface 25 (.int .i64 a), .iface 25 (.int .i64 b)] w fun e w' => e = .returned (.bool false) ∧ w = w' := by
  have h8 := @run_callFunc_extern Try.prog 37 _ Extern.ReflectliteType.typeOf Try.func37 (by kernel_rfl) (by kernel_rfl) (by kernel_rfl) (by kernel_rfl)
  have tT := isTypeOf
  have cT := isComparable
  have mR := isMethodComparable
  have nE := noIs
  have uE := noUnwrap
  have vE := noUnwraps
  have heq := Lib.run_eql_iface_int (P := Try.prog) w (t := 62) (tx := 25) (k := .i64) a b Try.underlying62 isComp Try.underlying25
  rw [show (a == b) = false by simp [hne]] at heq
  go_enter Try.func25, Try.ntmps25
  go_wp2
  refine wp_loop_rounds 1 ?_
  rw [rounds_succ]
  go_wp2
  go_ret
  exact ⟨rfl, rfl⟩

theorem is_nil (b : Int) (w : World) :
    Calls Try.prog 25 #[.nilIface, .iface 25 (.int .i64 b)] w fun e w' => e = .returned (.bool false) ∧ w = w' := by
  have hn := run_eql_iface_nil_left (P := Try.prog) w 25 (.int .i64 b) Try.underlying62
  go_enter Try.func25, Try.ntmps25
  go_wp2
  go_ret
  exact ⟨rfl, rfl⟩
end Go.Proofs.Ytgogdgpdkkbfhaa
